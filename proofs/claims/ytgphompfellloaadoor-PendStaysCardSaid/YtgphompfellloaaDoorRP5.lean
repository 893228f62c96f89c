/- For every input that the row allows, the law PendStays returns true and each argument reads afterwards as before; the library's tables that the row lists lie as the program's text lays them: the row, and its card (the tie given). -/
import Derived.Test.YtgphompfellloaaDoorM1
import Derived.Test.YtgphompfellloaaDoorM2
import Derived.Test.YtgphompfellloaaDoorM3
import Derived.Test.YtgphompfellloaaDoorDShelf
import Derived.Test.YtgphompfellloaaDoorM4
import Derived.Test.YtgphompfellloaaDoorM5
import Derived.Test.YtgphompfellloaaDoorM6
import Derived.Test.YtgphompfellloaaDoorM7
import Derived.Test.YtgphompfellloaaDoorRows
import Derived.Test.YtgphompfellloaaDoorCards
import Derived.Test.YtgphompfellloaaDoorTie
import Derived.SevenTiedAt
import Derived.WalkKit
import Derived.ProofKit
import Derived.OpenShut
import Derived.ChangeOld
import Derived.Below
import Derived.SizedLaws
import Derived.LaidLaws
import Derived.WideWitness
import Derived.Stop.Joined
import Derived.Stood8
import Derived.Lib.LaidIn
import Derived.Lib.LaidU8
import Derived.Deep.DeepHandedRow
import Derived.Deep.DeepWitnessRowRef
set_option linter.unusedVariables false
set_option linter.unusedSimpArgs false

namespace Go.Proofs.YtgphompfellloaaDoor
open Go Go.ChangeShapes Go.WideShapes Go.ChangeAt Go.RowKit Go.Gv Go.Proofs.E
theorem pendStays_own : ownKnob Tryd.prog.godebug = none := by kernel_rfl
theorem pendStays_laidOut : laidOutB Tryd.prog = true := by kernel_rfl
/-- What a datum's cells hold. -/
def flatD {H : Type} : Nat → DataW H → List Value
  | 0, _ => []
  | _ + 1, .lit (.int k n) => [.int k n]
  | n + 1, .agg l => l.flatMap (flatD n)
  | _ + 1, _ => []
noncomputable def pendStays_laidWorld (os : Os) : World :=
  let w0 := World.holding Tryd.prog os ⟨#[], #[], []⟩
  let put (h : Array Obj) (g : Nat) (cs : Array Value) : Array Obj := h.modify g fun
    | .cells _ t frozen => .cells cs t frozen
    | o => o
  { w0 with heap := Rows.pendStaysRow.laid.foldl (fun h x => put h ((Tryd.prog.globalNamed x.1).getD 0) (flatD 4 x.2).toArray) w0.heap }
theorem pendStays_met (os : Os) (args : Array Value) : laidMet Tryd.prog Rows.pendStaysRow.laid ((pendStays_laidWorld os).forCall (fun _ _ => 0) ⟨#[], args, []⟩).memory :=
  (LaidIn.of_run (Rows.pendStaysRow.laid.map fun x => (Tryd.prog.globalNamed x.1).getD 0) 8 (by kernel_rfl) (by kernel_rfl) (by kernel_rfl) (by kernel_rfl)).met
noncomputable abbrev pendStays_spec : OpenSpec := OpenSpec.ofChange Rows.pendStaysSpec
noncomputable def pendStays_wit : Array Value := #[.slice none 0 0, .slice none 0 0]
theorem pendStays_witness (os : Os) {H : Type} (enc : TypeId × Value → H) :
    pendStays_spec.preRow enc Tryd.prog Tryd.f7 Rows.pendStaysRow.domain false Rows.pendStaysRow.laid ((pendStays_laidWorld os).forCall (fun _ _ => 0) ⟨#[], pendStays_wit, []⟩).memory pendStays_wit := by
  have hw : (DataW.whole enc Tryd.prog ((pendStays_laidWorld os).forCall (fun _ _ => 0) ⟨#[], pendStays_wit, []⟩).memory Tryd.f7.params.toList pendStays_spec.vars false pendStays_wit.toList 8).map (fun x => (x.1, x.2.1)) =
      some ([.nil, .nil], []) := by kernel_rfl
  obtain ⟨⟨x1, x2, x3⟩, hx, hx1⟩ := Option.map_eq_some_iff.1 hw
  simp only [Prod.mk.injEq] at hx1
  obtain ⟨rfl, rfl⟩ := hx1
  exact OpenSpec.preRow_of_cond 8 hx (by kernel_rfl) (fun k hk => by cases hk) (by kernel_rfl) (pendStays_met os _)
theorem tabIs_of_reads {P : Program} {W : World} {name : String} {k : IntKind} {zs : List Int} {g : Nat} {t e : TypeId} {n : Nat}
    (hg : P.globalNamed name = some g) (hty : (P.globals[g]?).map (·.type) = some t) (ht : P.underlying t = some (.array n e)) (he : P.underlying e = some (.int k)) (hce : P.cellsOf e = 1) (hct : P.cellsOf t = n)
    (h : Lib.VarReads P W name (Lib.tabData k zs)) : Lib.TabIs P W name k zs := by
  obtain ⟨g', t', cs, fuel, p, hg', ht', hvar, hd⟩ := h
  obtain rfl := Option.some.inj (hg.symm.trans hg')
  obtain rfl := Option.some.inj (hty.symm.trans ht')
  unfold Lib.TabIs
  rw [hvar, ← Lib.cells_of_tab ht he hce hct hd]
set_option maxRecDepth 100000 in
set_option maxHeartbeats 2000000 in
theorem pendStays_lifted (os : Os) (started : os.Started) (H : Type) (enc : TypeId × Value → H) (F : Stop.Interp) :
    ReturnsInHanded {} Tryd.checked os 7 .any (pendStays_spec.preRow enc Tryd.prog Tryd.f7 Rows.pendStaysRow.domain false Rows.pendStaysRow.laid) ((pendStays_spec.at F).post enc Tryd.prog Tryd.f7 false true false false) := by
  refine returnsInHanded_of_row (C := Tryd.checked) (s := pendStays_spec) pendStays_own started (by kernel_rfl) Tryd.func7
    (witness_row_atRef (enc := enc) (C := Tryd.checked) false (pendStays_laidWorld os) pendStays_wit rfl (by kernel_rfl) (by kernel_rfl) (by kernel_rfl) (pendStays_witness os enc)) ?_
  intro W base args ds gs before hval0 hW hcnd0 _ hsz hL hS _
  clear hcnd0 hsz
  have hval : ∀ (j : Nat) t v, Tryd.f7.params[j]? = some t → args[j]? = some v → Value.okWide Tryd.prog W .any base t v := hval0
  have hW' := hW
  obtain ⟨p, q, hA0, hV0, rfl, _, _⟩ := hW
  have hA : DataW.TrodAll enc Tryd.prog W 0 (fun _ => true) true Tryd.f7.params.toList args.toList ds p := hA0
  rw [Tryd.params7] at hA hval
  obtain ⟨v0, vs0, d0, ds0, p0, q0, hargs, rfl, rfl, h0, r0⟩ := trodAll_cons hA
  obtain ⟨v1, vs1, d1, ds1, p1, q1, rfl, rfl, rfl, h1, r1⟩ := trodAll_cons r0
  obtain ⟨rfl, rfl, rfl⟩ := trodAll_nil r1
  obtain rfl : args = #[v0, v1] := by cases args; simp_all
  obtain ⟨rfl, rfl⟩ := trodVars_none hV0
  have lt0 : ∀ x ∈ p0, x.block < W.heap.size := by obtain ⟨m, hm⟩ := h0; exact DataW.trod_lt m _ _ _ hm
  have lt1 : ∀ x ∈ p1, x.block < W.heap.size := by obtain ⟨m, hm⟩ := h1; exact DataW.trod_lt m _ _ _ hm
  have o0 := hval 0 54 v0 rfl rfl
  have o1 := hval 1 54 v1 rfl rfl
  clear hA0 hV0 hval0 hval hA
  obtain ⟨D0, ok0, e0⟩ := openArg (.sl (.st [(.int .i64), (.st [(.int .i64), (.int .i64)]), (.st [(.int .i64), (.int .i64)]), (.int .i32)])) (by kernel_rfl) o0 h0
  obtain ⟨x0_0, rfl, hx0_0⟩ := ok0
  obtain ⟨l0, rfl, q0⟩ := rowsOf opRow hx0_0
  obtain ⟨D1, ok1, e1⟩ := openArg (.sl (.st [(.int .i64), (.st [(.int .i64), (.int .i64)]), (.st [(.int .i64), (.int .i64)]), (.int .i32)])) (by kernel_rfl) o1 h1
  obtain ⟨x1_0, rfl, hx1_0⟩ := ok1
  obtain ⟨l1, rfl, q1⟩ := rowsOf opRow hx1_0
  have t1 : Lib.TabIs Tryd.prog W "internal/strconv.uint64pow10" .u64 Lib.pow10Tab := tabIs_of_reads (t := 171) (e := 150) (n := 20) gPow (by kernel_rfl) (by kernel_rfl) (by kernel_rfl) (by kernel_rfl) (by kernel_rfl) (Lib.laidMet.reads hL (.tail _ (.tail _ (.head _))))
  have t2 : Lib.TabIs Tryd.prog W "math/bits.deBruijn64tab" .u8 tab64 := tabIs_of_reads (t := 176) (e := 5) (n := 64) gTz (by kernel_rfl) (by kernel_rfl) (by kernel_rfl) (by kernel_rfl) (by kernel_rfl) (Lib.laidMet.reads hL (.tail _ (.head _)))
  obtain ⟨t3, t4⟩ := tab_of t1 t2
  refine ((PendStays_c l0 l1).calls W t3 t4 [v0, v1] rfl (args_cons (e0 _) (args_cons (e1 _) args_nil))).mono fun e W' ⟨he, bel⟩ => ?_
  subst he
  have e1 : (pendStays_spec.at F).fn H ([d0, d1] ++ []) = { results := [.lit (.bool true)], args := [d0, d1] } := rfl
  refine ⟨_, rfl, _, _, _, [], (List.append p0 (List.append p1 [])), [], hW', ?_, ?_, ?_, bel.frame _, fun h => by cases h⟩
  · rw [e1]; exact trodAll_mk1 (shut_bool Tryd.underlying4 _)
  · rw [e1]
    exact (trodAll_cons_mk (Below.trod pendStays_laidOut (by kernel_rfl) (of_decide_eq_true (by kernel_rfl)) h0 bel lt0) (trodAll_cons_mk (Below.trod pendStays_laidOut (by kernel_rfl) (of_decide_eq_true (by kernel_rfl)) h1 bel lt1) trodAll_mk0))
  · rw [e1]; rfl
theorem pendStays_over : Rows.PendStaysSaid :=
  OpenClaim.holds_of_cond 7 Tryd.f7 rfl rfl rfl rfl rfl rfl rfl ⟨rfl, rfl, rfl, rfl, rfl⟩ rfl rfl rfl rfl rfl (by kernel_rfl) Tryd.func7 (by kernel_rfl)
    (of_decide_eq_true (by kernel_rfl)) (by unfold Func.isWrapper; first | (rw [if_pos (by decide +kernel)]; kernel_rfl) | (rw [if_neg (by decide +kernel)]; exact ⟨rfl, rfl⟩))
    (fun os started H enc _ F0 => by rw [OpenClaim.pre_eq_preRow]; exact pendStays_lifted os started H enc F0)
theorem PendStays_holds : Rows.PendStaysCardSaid :=
  Claim7.holds_tied_plain_at .later [] Rows.pendStaysCard.laidKinds true Rows.pendStaysCard.stood.harness false
    pendStays_over (fun _ h => by cases h) (by kernel_rfl) (fun _ h => by cases h) pendStays_row_tie rfl ⟨rfl, rfl⟩ (by kernel_rfl) rfl
    (fun f fn hf hfn => by
      obtain rfl : f = 7 := Option.some.inj ((show Tryd.prog.funcNamed Rows.pendStaysRow.func = some 7 by kernel_rfl).symm.trans hf) |>.symm
      obtain rfl : fn = Tryd.f7 := (Option.some.inj (Tryd.func7.symm.trans hfn)).symm
      refine ⟨by kernel_rfl, fun j t ht => ?_⟩
      rw [Tryd.params7] at ht
      rcases j with _ | j
      · obtain rfl : t = 54 := by simpa using ht.symm
        exact (show Tryd.prog.wantsStandIn 54 = false by kernel_rfl)
      rcases j with _ | j
      · obtain rfl : t = 54 := by simpa using ht.symm
        exact (show Tryd.prog.wantsStandIn 54 = false by kernel_rfl)
      · simp at ht)
    (by kernel_rfl)
#print axioms PendStays_holds
end Go.Proofs.YtgphompfellloaaDoor

