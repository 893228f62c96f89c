/- For every input that the row allows, the law RaceSees returns true and each argument reads afterwards as before; no condition beyond the row's own. -/
import Derived.Test.YtaojepfldokjdaaM1
import Derived.Test.YtaojepfldokjdaaM2
import Derived.Test.YtaojepfldokjdaaM3
import Derived.Test.YtaojepfldokjdaaM4
import Derived.Test.YtaojepfldokjdaaM5
import Derived.Test.YtaojepfldokjdaaRows
import Derived.WalkKit
import Derived.ProofKit
import Derived.OpenShut
import Derived.ShutString
import Derived.ChangeOld
import Derived.Below
import Derived.SizedLaws
import Derived.ChangeMaps
set_option linter.unusedVariables false
set_option linter.unusedSimpArgs false

namespace Go.Proofs.Ytaojepfldokjdaa
open Go Go.ChangeShapes Go.WideShapes Go.ChangeAt Go.RowKit Go.Gv Go.Proofs.E
theorem raceSees_own : ownKnob Try.prog.godebug = none := by kernel_rfl
theorem raceSees_laidOut : laidOutB Try.prog = true := by kernel_rfl
set_option maxRecDepth 100000 in
theorem raceSees_lifted (os : Os) (started : os.Started) (H : Type) (enc : TypeId × Value → H) :
    ReturnsInHanded {} Try.checked os 4 .any (Rows.raceSeesSpec.pre6 enc Try.prog Try.f4 Rows.raceSeesRow.domain false) (Rows.raceSeesSpec.post enc Try.prog Try.f4 false true false false) := by
  refine returnsInHanded_of_change_sized (C := Try.checked) raceSees_own started (by kernel_rfl) Try.func4
    (ChangeSpec.witness6 (enc := enc) (C := Try.checked) false ⟨#[], #[.slice none 0 0, .int .i64 0], []⟩ 8 (by kernel_rfl) (by kernel_rfl) (by kernel_rfl) (by kernel_rfl)) ?_
  intro W base args ds gs before hval0 hW hcnd hsz0 _
  have hval : ∀ (j : Nat) t v, Try.f4.params[j]? = some t → args[j]? = some v → Value.okWide Try.prog W .any base t v := hval0
  have hW' := hW
  obtain ⟨p, q, hA0, hV, rfl, hfz, hnd⟩ := hW
  have hA : DataW.TrodAll enc Try.prog W 0 (fun _ => true) true Try.f4.params.toList args.toList ds p := hA0
  rw [Try.params4] at hA hval
  obtain ⟨v0, vs0, d0, ds0, p0, q0, hargs, rfl, rfl, h0, r0⟩ := trodAll_cons hA
  obtain ⟨v1, vs1, d1, ds1, p1, q1, rfl, rfl, rfl, h1, r1⟩ := trodAll_cons r0
  obtain ⟨rfl, rfl, rfl⟩ := trodAll_nil r1
  obtain rfl : args = #[v0, v1] := by cases args; simp_all
  obtain ⟨rfl, rfl⟩ := trodVars_none hV
  have lt0 : ∀ x ∈ p0, x.block < W.heap.size := by obtain ⟨m, hm⟩ := h0; exact DataW.trod_lt m _ _ _ hm
  have lt1 : ∀ x ∈ p1, x.block < W.heap.size := by obtain ⟨m, hm⟩ := h1; exact DataW.trod_lt m _ _ _ hm
  have o0 := hval 0 22 v0 rfl rfl
  have o1 := hval 1 3 v1 rfl rfl
  obtain ⟨D0, ok0, e0⟩ := openArg (.sl (.st [(.int .i64), (.int .i64), (.int .i64)])) (by kernel_rfl) o0 h0
  obtain ⟨x0_0, rfl, hx0_0⟩ := ok0
  obtain ⟨l0, rfl, q0⟩ := rowsOf acRow hx0_0
  obtain ⟨D1, ok1, e1⟩ := openArg (.int .i64) (by kernel_rfl) o1 h1
  obtain ⟨a1_0, rfl, w1_0⟩ := ok1
  clear hA0 hval0 hsz0
  refine ((RaceSees_c l0 a1_0).calls W trivial (Nat.zero_le _) [v0, v1] rfl (args_cons (e0 _) (args_cons (e1 _) args_nil))).mono fun e W' ⟨he, bel⟩ => ?_
  subst he
  exact ⟨_, rfl, _, _, _, [], _, [], hW', trodAll_mk1 (shut_bool Try.underlying4 _), (trodAll_cons_mk (Below.trod raceSees_laidOut (by kernel_rfl) (of_decide_eq_true (by kernel_rfl)) h0 bel lt0) (trodAll_cons_mk (Below.trod raceSees_laidOut (by kernel_rfl) (of_decide_eq_true (by kernel_rfl)) h1 bel lt1) trodAll_mk0)), rfl, bel.frame _, fun h => by cases h⟩
theorem raceSees_over : Rows.raceSeesRow.holds Try.pinned (OpenSpec.ofChange Rows.raceSeesSpec) :=
  OpenClaim.holds_of_wide 4 Try.f4 rfl rfl rfl rfl rfl rfl rfl ⟨rfl, rfl, rfl, rfl, rfl⟩ rfl rfl rfl rfl rfl (by kernel_rfl) Try.func4 (by kernel_rfl)
    (of_decide_eq_true (by kernel_rfl)) (by unfold Func.isWrapper; first | (rw [if_pos (by decide +kernel)]; kernel_rfl) | (rw [if_neg (by decide +kernel)]; exact ⟨rfl, rfl⟩))
    (fun os started H enc _ => raceSees_lifted os started H enc)
theorem RaceSees_holds : Rows.RaceSeesSaid := raceSees_over
#print axioms RaceSees_holds
end Go.Proofs.Ytaojepfldokjdaa

