/- For every input that the row allows, the law CoreFull returns true and each argument reads afterwards as before; the library's tables that the row lists lie as the program's text lays them: the row, and its card (the tie given). -/
import Derived.Test.YtgphompfellloaaDoorM1
import Derived.Test.YtgphompfellloaaDoorM2
import Derived.Test.YtgphompfellloaaDoorM3
import Derived.Test.YtgphompfellloaaDoorDShelf
import Derived.Test.YtgphompfellloaaDoorM4
import Derived.Test.YtgphompfellloaaDoorM5
import Derived.Test.YtgphompfellloaaDoorM6
import Derived.Test.YtgphompfellloaaDoorRows
import Derived.Test.YtgphompfellloaaDoorCards
import Derived.Test.YtgphompfellloaaDoorTie
import Derived.SevenTiedAt
import Derived.WalkKit
import Derived.ProofKit
import Derived.OpenShut
import Derived.ChangeOld
import Derived.Below
import Derived.SizedLaws
import Derived.LaidLaws
import Derived.WideWitness
import Derived.Stop.Joined
import Derived.Stood8
import Derived.Lib.LaidIn
import Derived.Lib.LaidU8
import Derived.Deep.DeepHandedRow
import Derived.Deep.DeepWitnessRowRef
set_option linter.unusedVariables false
set_option linter.unusedSimpArgs false

namespace Go.Proofs.YtgphompfellloaaDoor
open Go Go.ChangeShapes Go.WideShapes Go.ChangeAt Go.RowKit Go.Gv Go.Proofs.E
theorem coreFull_own : ownKnob Tryd.prog.godebug = none := by kernel_rfl
theorem coreFull_laidOut : laidOutB Tryd.prog = true := by kernel_rfl
/-- What a datum's cells hold. -/
def flatD {H : Type} : Nat → DataW H → List Value
  | 0, _ => []
  | _ + 1, .lit (.int k n) => [.int k n]
  | n + 1, .agg l => l.flatMap (flatD n)
  | _ + 1, _ => []
noncomputable def coreFull_laidWorld (os : Os) : World :=
  let w0 := World.holding Tryd.prog os ⟨#[], #[], []⟩
  let put (h : Array Obj) (g : Nat) (cs : Array Value) : Array Obj := h.modify g fun
    | .cells _ t frozen => .cells cs t frozen
    | o => o
  { w0 with heap := Rows.coreFullRow.laid.foldl (fun h x => put h ((Tryd.prog.globalNamed x.1).getD 0) (flatD 4 x.2).toArray) w0.heap }
theorem coreFull_met (os : Os) (args : Array Value) : laidMet Tryd.prog Rows.coreFullRow.laid ((coreFull_laidWorld os).forCall (fun _ _ => 0) ⟨#[], args, []⟩).memory :=
  (LaidIn.of_run (Rows.coreFullRow.laid.map fun x => (Tryd.prog.globalNamed x.1).getD 0) 8 (by kernel_rfl) (by kernel_rfl) (by kernel_rfl) (by kernel_rfl)).met
noncomputable abbrev coreFull_spec : OpenSpec := OpenSpec.ofChange Rows.coreFullSpec
noncomputable def coreFull_wit : Array Value := #[.int .u8 0]
theorem coreFull_witness (os : Os) {H : Type} (enc : TypeId × Value → H) :
    coreFull_spec.preRow enc Tryd.prog Tryd.f4 Rows.coreFullRow.domain false Rows.coreFullRow.laid ((coreFull_laidWorld os).forCall (fun _ _ => 0) ⟨#[], coreFull_wit, []⟩).memory coreFull_wit := by
  have hw : (DataW.whole enc Tryd.prog ((coreFull_laidWorld os).forCall (fun _ _ => 0) ⟨#[], coreFull_wit, []⟩).memory Tryd.f4.params.toList coreFull_spec.vars false coreFull_wit.toList 8).map (fun x => (x.1, x.2.1)) =
      some ([.lit (.int .u8 0)], []) := by kernel_rfl
  obtain ⟨⟨x1, x2, x3⟩, hx, hx1⟩ := Option.map_eq_some_iff.1 hw
  simp only [Prod.mk.injEq] at hx1
  obtain ⟨rfl, rfl⟩ := hx1
  exact OpenSpec.preRow_of_cond 8 hx (by kernel_rfl) (fun k hk => by cases hk) (by kernel_rfl) (coreFull_met os _)
theorem tabIs_of_reads {P : Program} {W : World} {name : String} {k : IntKind} {zs : List Int} {g : Nat} {t e : TypeId} {n : Nat}
    (hg : P.globalNamed name = some g) (hty : (P.globals[g]?).map (·.type) = some t) (ht : P.underlying t = some (.array n e)) (he : P.underlying e = some (.int k)) (hce : P.cellsOf e = 1) (hct : P.cellsOf t = n)
    (h : Lib.VarReads P W name (Lib.tabData k zs)) : Lib.TabIs P W name k zs := by
  obtain ⟨g', t', cs, fuel, p, hg', ht', hvar, hd⟩ := h
  obtain rfl := Option.some.inj (hg.symm.trans hg')
  obtain rfl := Option.some.inj (hty.symm.trans ht')
  unfold Lib.TabIs
  rw [hvar, ← Lib.cells_of_tab ht he hce hct hd]
set_option maxRecDepth 100000 in
set_option maxHeartbeats 2000000 in
theorem coreFull_lifted (os : Os) (started : os.Started) (H : Type) (enc : TypeId × Value → H) (F : Stop.Interp) :
    ReturnsInHanded {} Tryd.checked os 4 .any (coreFull_spec.preRow enc Tryd.prog Tryd.f4 Rows.coreFullRow.domain false Rows.coreFullRow.laid) ((coreFull_spec.at F).post enc Tryd.prog Tryd.f4 false true false false) := by
  refine returnsInHanded_of_row (C := Tryd.checked) (s := coreFull_spec) coreFull_own started (by kernel_rfl) Tryd.func4
    (witness_row_atRef (enc := enc) (C := Tryd.checked) false (coreFull_laidWorld os) coreFull_wit rfl (by kernel_rfl) (by kernel_rfl) (by kernel_rfl) (coreFull_witness os enc)) ?_
  intro W base args ds gs before hval0 hW hcnd0 _ hsz hL hS _
  clear hcnd0 hsz
  have hval : ∀ (j : Nat) t v, Tryd.f4.params[j]? = some t → args[j]? = some v → Value.okWide Tryd.prog W .any base t v := hval0
  have hW' := hW
  obtain ⟨p, q, hA0, hV0, rfl, _, _⟩ := hW
  have hA : DataW.TrodAll enc Tryd.prog W 0 (fun _ => true) true Tryd.f4.params.toList args.toList ds p := hA0
  rw [Tryd.params4] at hA hval
  obtain ⟨v0, vs0, d0, ds0, p0, q0, hargs, rfl, rfl, h0, r0⟩ := trodAll_cons hA
  obtain ⟨rfl, rfl, rfl⟩ := trodAll_nil r0
  obtain rfl : args = #[v0] := by cases args; simp_all
  obtain ⟨rfl, rfl⟩ := trodVars_none hV0
  have lt0 : ∀ x ∈ p0, x.block < W.heap.size := by obtain ⟨m, hm⟩ := h0; exact DataW.trod_lt m _ _ _ hm
  have o0 := hval 0 5 v0 rfl rfl
  clear hA0 hV0 hval0 hval hA
  obtain ⟨D0, ok0, e0⟩ := openArg (.int .u8) (by kernel_rfl) o0 h0
  obtain ⟨a0_0, rfl, w0_0⟩ := ok0
  have t1 : Lib.TabIs Tryd.prog W "internal/strconv.uint64pow10" .u64 Lib.pow10Tab := tabIs_of_reads (t := 171) (e := 150) (n := 20) gPow (by kernel_rfl) (by kernel_rfl) (by kernel_rfl) (by kernel_rfl) (by kernel_rfl) (Lib.laidMet.reads hL (.tail _ (.tail _ (.head _))))
  have t2 : Lib.TabIs Tryd.prog W "math/bits.deBruijn64tab" .u8 tab64 := tabIs_of_reads (t := 176) (e := 5) (n := 64) gTz (by kernel_rfl) (by kernel_rfl) (by kernel_rfl) (by kernel_rfl) (by kernel_rfl) (Lib.laidMet.reads hL (.tail _ (.head _)))
  obtain ⟨t3, t4⟩ := tab_of t1 t2
  refine ((CoreFull_c a0_0 (u8_rng w0_0).1 (u8_rng w0_0).2).calls W t3 t4 [v0] rfl (args_cons (e0 _) args_nil)).mono fun e W' ⟨he, bel⟩ => ?_
  subst he
  have e1 : (coreFull_spec.at F).fn H ([d0] ++ []) = { results := [.lit (.bool true)], args := [d0] } := rfl
  refine ⟨_, rfl, _, _, _, [], (List.append p0 []), [], hW', ?_, ?_, ?_, bel.frame _, fun h => by cases h⟩
  · rw [e1]; exact trodAll_mk1 (shut_bool Tryd.underlying4 _)
  · rw [e1]
    exact (trodAll_cons_mk (Below.trod coreFull_laidOut (by kernel_rfl) (of_decide_eq_true (by kernel_rfl)) h0 bel lt0) trodAll_mk0)
  · rw [e1]; rfl
theorem coreFull_over : Rows.CoreFullSaid :=
  OpenClaim.holds_of_cond 4 Tryd.f4 rfl rfl rfl rfl rfl rfl rfl ⟨rfl, rfl, rfl, rfl, rfl⟩ rfl rfl rfl rfl rfl (by kernel_rfl) Tryd.func4 (by kernel_rfl)
    (of_decide_eq_true (by kernel_rfl)) (by unfold Func.isWrapper; first | (rw [if_pos (by decide +kernel)]; kernel_rfl) | (rw [if_neg (by decide +kernel)]; exact ⟨rfl, rfl⟩))
    (fun os started H enc _ F0 => by rw [OpenClaim.pre_eq_preRow]; exact coreFull_lifted os started H enc F0)
theorem CoreFull_holds : Rows.CoreFullCardSaid :=
  Claim7.holds_tied_plain_at .later [] Rows.coreFullCard.laidKinds true Rows.coreFullCard.stood.harness false
    coreFull_over (fun _ h => by cases h) (by kernel_rfl) (fun _ h => by cases h) coreFull_row_tie rfl ⟨rfl, rfl⟩ (by kernel_rfl) rfl
    (fun f fn hf hfn => by
      obtain rfl : f = 4 := Option.some.inj ((show Tryd.prog.funcNamed Rows.coreFullRow.func = some 4 by kernel_rfl).symm.trans hf) |>.symm
      obtain rfl : fn = Tryd.f4 := (Option.some.inj (Tryd.func4.symm.trans hfn)).symm
      refine ⟨by kernel_rfl, fun j t ht => ?_⟩
      rw [Tryd.params4] at ht
      rcases j with _ | j
      · obtain rfl : t = 5 := by simpa using ht.symm
        exact (show Tryd.prog.wantsStandIn 5 = false by kernel_rfl)
      · simp at ht)
    (by kernel_rfl)
#print axioms CoreFull_holds
end Go.Proofs.YtgphompfellloaaDoor

