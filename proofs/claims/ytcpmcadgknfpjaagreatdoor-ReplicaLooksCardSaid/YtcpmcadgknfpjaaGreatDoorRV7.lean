/- For every input that the row allows, the law ReplicaLooks returns true and each argument reads afterwards as before; the library's tables that the row lists lie as the program's text lays them: the row, and its card (the tie given). -/
import Derived.Test.YtcpmcadgknfpjaaGreatDoorM1
import Derived.Test.YtcpmcadgknfpjaaGreatDoorM2
import Derived.Test.YtcpmcadgknfpjaaGreatDoorM3
import Derived.Test.YtcpmcadgknfpjaaGreatDoorDShelf
import Derived.Test.YtcpmcadgknfpjaaGreatDoorM4
import Derived.Test.YtcpmcadgknfpjaaGreatDoorM5
import Derived.Test.YtcpmcadgknfpjaaGreatDoorM6
import Derived.Test.YtcpmcadgknfpjaaGreatDoorM7
import Derived.Test.YtcpmcadgknfpjaaGreatDoorRows
import Derived.Test.YtcpmcadgknfpjaaGreatDoorCards
import Derived.Test.YtcpmcadgknfpjaaGreatDoorTie
import Derived.SevenTiedAt
import Derived.WalkKit
import Derived.ProofKit
import Derived.OpenShut
import Derived.ChangeOld
import Derived.Below
import Derived.SizedLaws
import Derived.LaidLaws
import Derived.WideWitness
import Derived.Stop.Joined
import Derived.Stood8
import Derived.Lib.LaidIn
import Derived.Lib.LaidU8
import Derived.Deep.DeepHandedRow
import Derived.Deep.DeepWitnessRowRef
set_option linter.unusedVariables false
set_option linter.unusedSimpArgs false

namespace Go.Proofs.YtcpmcadgknfpjaaGreatDoor
open Go Go.ChangeShapes Go.WideShapes Go.ChangeAt Go.RowKit Go.Gv Go.Proofs.E
theorem replicaLooks_own : ownKnob Tryz.prog.godebug = none := by kernel_rfl
theorem replicaLooks_laidOut : laidOutB Tryz.prog = true := by kernel_rfl
/-- What a datum's cells hold. -/
def flatD {H : Type} : Nat → DataW H → List Value
  | 0, _ => []
  | _ + 1, .lit (.int k n) => [.int k n]
  | n + 1, .agg l => l.flatMap (flatD n)
  | _ + 1, _ => []
noncomputable def replicaLooks_laidWorld (os : Os) : World :=
  let w0 := World.holding Tryz.prog os ⟨#[], #[], []⟩
  let put (h : Array Obj) (g : Nat) (cs : Array Value) : Array Obj := h.modify g fun
    | .cells _ t frozen => .cells cs t frozen
    | o => o
  { w0 with heap := Rows.replicaLooksRow.laid.foldl (fun h x => put h ((Tryz.prog.globalNamed x.1).getD 0) (flatD 4 x.2).toArray) w0.heap }
theorem replicaLooks_met (os : Os) (args : Array Value) : laidMet Tryz.prog Rows.replicaLooksRow.laid ((replicaLooks_laidWorld os).forCall (fun _ _ => 0) ⟨#[], args, []⟩).memory :=
  (LaidIn.of_run (Rows.replicaLooksRow.laid.map fun x => (Tryz.prog.globalNamed x.1).getD 0) 8 (by kernel_rfl) (by kernel_rfl) (by kernel_rfl) (by kernel_rfl)).met
noncomputable abbrev replicaLooks_spec : OpenSpec := OpenSpec.ofChange Rows.replicaLooksSpec
noncomputable def replicaLooks_wit : Array Value := #[.slice none 0 0, .agg #[.int .i64 0, .int .i64 0, .int .i32 0, .int .i64 0, .int .i64 0, .int .i64 0, .int .i64 0, .int .i64 0, .int .i32 0, .int .i64 0, .int .i64 0]]
theorem replicaLooks_witness (os : Os) {H : Type} (enc : TypeId × Value → H) :
    replicaLooks_spec.preRow enc Tryz.prog Tryz.f8 Rows.replicaLooksRow.domain false Rows.replicaLooksRow.laid ((replicaLooks_laidWorld os).forCall (fun _ _ => 0) ⟨#[], replicaLooks_wit, []⟩).memory replicaLooks_wit := by
  have hw : (DataW.whole enc Tryz.prog ((replicaLooks_laidWorld os).forCall (fun _ _ => 0) ⟨#[], replicaLooks_wit, []⟩).memory Tryz.f8.params.toList replicaLooks_spec.vars false replicaLooks_wit.toList 8).map (fun x => (x.1, x.2.1)) =
      some ([.nil, .agg [.lit (.int .i64 0), .lit (.int .i64 0), .lit (.int .i32 0), .agg [.lit (.int .i64 0), .agg [.lit (.int .i64 0), .lit (.int .i64 0)], .agg [.lit (.int .i64 0), .lit (.int .i64 0)], .lit (.int .i32 0)], .agg [.lit (.int .i64 0), .lit (.int .i64 0)]]], []) := by kernel_rfl
  obtain ⟨⟨x1, x2, x3⟩, hx, hx1⟩ := Option.map_eq_some_iff.1 hw
  simp only [Prod.mk.injEq] at hx1
  obtain ⟨rfl, rfl⟩ := hx1
  exact OpenSpec.preRow_of_cond 8 hx (by kernel_rfl) (fun k hk => by cases hk) (by kernel_rfl) (replicaLooks_met os _)
theorem tabIs_of_reads {P : Program} {W : World} {name : String} {k : IntKind} {zs : List Int} {g : Nat} {t e : TypeId} {n : Nat}
    (hg : P.globalNamed name = some g) (hty : (P.globals[g]?).map (·.type) = some t) (ht : P.underlying t = some (.array n e)) (he : P.underlying e = some (.int k)) (hce : P.cellsOf e = 1) (hct : P.cellsOf t = n)
    (h : Lib.VarReads P W name (Lib.tabData k zs)) : Lib.TabIs P W name k zs := by
  obtain ⟨g', t', cs, fuel, p, hg', ht', hvar, hd⟩ := h
  obtain rfl := Option.some.inj (hg.symm.trans hg')
  obtain rfl := Option.some.inj (hty.symm.trans ht')
  unfold Lib.TabIs
  rw [hvar, ← Lib.cells_of_tab ht he hce hct hd]
set_option maxRecDepth 100000 in
set_option maxHeartbeats 2000000 in
theorem replicaLooks_lifted (os : Os) (started : os.Started) (H : Type) (enc : TypeId × Value → H) (F : Stop.Interp) :
    ReturnsInHanded {} Tryz.checked os 8 .any (replicaLooks_spec.preRow enc Tryz.prog Tryz.f8 Rows.replicaLooksRow.domain false Rows.replicaLooksRow.laid) ((replicaLooks_spec.at F).post enc Tryz.prog Tryz.f8 false true false false) := by
  refine returnsInHanded_of_row (C := Tryz.checked) (s := replicaLooks_spec) replicaLooks_own started (by kernel_rfl) Tryz.func8
    (witness_row_atRef (enc := enc) (C := Tryz.checked) false (replicaLooks_laidWorld os) replicaLooks_wit rfl (by kernel_rfl) (by kernel_rfl) (by kernel_rfl) (replicaLooks_witness os enc)) ?_
  intro W base args ds gs before hval0 hW hcnd0 _ hsz hL hS _
  clear hcnd0 hsz
  have hval : ∀ (j : Nat) t v, Tryz.f8.params[j]? = some t → args[j]? = some v → Value.okWide Tryz.prog W .any base t v := hval0
  have hW' := hW
  obtain ⟨p, q, hA0, hV0, rfl, _, _⟩ := hW
  have hA : DataW.TrodAll enc Tryz.prog W 0 (fun _ => true) true Tryz.f8.params.toList args.toList ds p := hA0
  rw [Tryz.params8] at hA hval
  obtain ⟨v0, vs0, d0, ds0, p0, q0, hargs, rfl, rfl, h0, r0⟩ := trodAll_cons hA
  obtain ⟨v1, vs1, d1, ds1, p1, q1, rfl, rfl, rfl, h1, r1⟩ := trodAll_cons r0
  obtain ⟨rfl, rfl, rfl⟩ := trodAll_nil r1
  obtain rfl : args = #[v0, v1] := by cases args; simp_all
  obtain ⟨rfl, rfl⟩ := trodVars_none hV0
  have lt0 : ∀ x ∈ p0, x.block < W.heap.size := by obtain ⟨m, hm⟩ := h0; exact DataW.trod_lt m _ _ _ hm
  have lt1 : ∀ x ∈ p1, x.block < W.heap.size := by obtain ⟨m, hm⟩ := h1; exact DataW.trod_lt m _ _ _ hm
  have o0 := hval 0 101 v0 rfl rfl
  have o1 := hval 1 104 v1 rfl rfl
  clear hA0 hV0 hval0 hval hA
  obtain ⟨D0, ok0, e0⟩ := openArg (.sl (.st [(.int .i64), (.int .i64), (.int .i32), (.st [(.int .i64), (.st [(.int .i64), (.int .i64)]), (.st [(.int .i64), (.int .i64)]), (.int .i32)]), (.st [(.int .i64), (.int .i64)])])) (by kernel_rfl) o0 h0
  obtain ⟨x0_0, rfl, hx0_0⟩ := ok0
  obtain ⟨l0, rfl, q0⟩ := rowsOf callRow hx0_0
  obtain ⟨D1, ok1, e1⟩ := openArg (.st [(.int .i64), (.int .i64), (.int .i32), (.st [(.int .i64), (.st [(.int .i64), (.int .i64)]), (.st [(.int .i64), (.int .i64)]), (.int .i32)]), (.st [(.int .i64), (.int .i64)])]) (by kernel_rfl) o1 h1
  obtain ⟨_, _, rfl, ⟨a1_0, rfl, w1_0⟩, ⟨_, _, rfl, ⟨a1_1, rfl, w1_1⟩, ⟨_, _, rfl, ⟨a1_2, rfl, w1_2⟩, ⟨_, _, rfl, ⟨_, _, rfl, ⟨a1_3, rfl, w1_3⟩, ⟨_, _, rfl, ⟨_, _, rfl, ⟨a1_4, rfl, w1_4⟩, ⟨_, _, rfl, ⟨a1_5, rfl, w1_5⟩, rfl⟩⟩, ⟨_, _, rfl, ⟨_, _, rfl, ⟨a1_6, rfl, w1_6⟩, ⟨_, _, rfl, ⟨a1_7, rfl, w1_7⟩, rfl⟩⟩, ⟨_, _, rfl, ⟨a1_8, rfl, w1_8⟩, rfl⟩⟩⟩⟩, ⟨_, _, rfl, ⟨_, _, rfl, ⟨a1_9, rfl, w1_9⟩, ⟨_, _, rfl, ⟨a1_10, rfl, w1_10⟩, rfl⟩⟩, rfl⟩⟩⟩⟩⟩ := ok1
  have t1 : Lib.TabIs Tryz.prog W "internal/strconv.uint64pow10" .u64 Lib.pow10Tab := tabIs_of_reads (t := 274) (e := 237) (n := 20) gPow (by kernel_rfl) (by kernel_rfl) (by kernel_rfl) (by kernel_rfl) (by kernel_rfl) (Lib.laidMet.reads hL (.tail _ (.tail _ (.head _))))
  have t2 : Lib.TabIs Tryz.prog W "math/bits.deBruijn64tab" .u8 tab64 := tabIs_of_reads (t := 281) (e := 5) (n := 64) gTz (by kernel_rfl) (by kernel_rfl) (by kernel_rfl) (by kernel_rfl) (by kernel_rfl) (Lib.laidMet.reads hL (.tail _ (.head _)))
  obtain ⟨t3, t4⟩ := tab_of t1 t2 (Go.Proofs.cell_of_shapedOpen_int (zero := #[.int .i64 0]) (t := 3) hS (of_decide_eq_true (by kernel_rfl)) (by kernel_rfl) rfl (by kernel_rfl) (by kernel_rfl) Tryz.underlying3)
  refine ((ReplicaLooks_c l0 ⟨a1_0, a1_1, a1_2, ⟨a1_3, ⟨a1_4, a1_5⟩, ⟨a1_6, a1_7⟩, a1_8⟩, ⟨a1_9, a1_10⟩⟩).calls W t3 t4 [v0, v1] rfl (args_cons (e0 _) (args_cons (e1 _) args_nil))).mono fun e W' ⟨he, bel⟩ => ?_
  subst he
  have e1 : (replicaLooks_spec.at F).fn H ([d0, d1] ++ []) = { results := [.lit (.bool true)], args := [d0, d1] } := rfl
  refine ⟨_, rfl, _, _, _, [], (List.append p0 (List.append p1 [])), [], hW', ?_, ?_, ?_, bel.frame _, fun h => by cases h⟩
  · rw [e1]; exact trodAll_mk1 (shut_bool Tryz.underlying4 _)
  · rw [e1]
    exact (trodAll_cons_mk (Below.trod replicaLooks_laidOut (by kernel_rfl) (of_decide_eq_true (by kernel_rfl)) h0 bel lt0) (trodAll_cons_mk (Below.trod replicaLooks_laidOut (by kernel_rfl) (of_decide_eq_true (by kernel_rfl)) h1 bel lt1) trodAll_mk0))
  · rw [e1]; rfl
theorem replicaLooks_over : Rows.ReplicaLooksSaid :=
  OpenClaim.holds_of_cond 8 Tryz.f8 rfl rfl rfl rfl rfl rfl rfl ⟨rfl, rfl, rfl, rfl, rfl⟩ rfl rfl rfl rfl rfl (by kernel_rfl) Tryz.func8 (by kernel_rfl)
    (of_decide_eq_true (by kernel_rfl)) (by unfold Func.isWrapper; first | (rw [if_pos (by decide +kernel)]; kernel_rfl) | (rw [if_neg (by decide +kernel)]; exact ⟨rfl, rfl⟩))
    (fun os started H enc _ F0 => by rw [OpenClaim.pre_eq_preRow]; exact replicaLooks_lifted os started H enc F0)
theorem ReplicaLooks_holds : Rows.ReplicaLooksCardSaid :=
  Claim7.holds_tied_plain_at .later [] Rows.replicaLooksCard.laidKinds true Rows.replicaLooksCard.stood.harness Rows.replicaLooksCard.stood.looks
    replicaLooks_over (fun _ h => by cases h) (by kernel_rfl) (fun _ h => by cases h) replicaLooks_row_tie rfl ⟨rfl, rfl⟩ (by kernel_rfl) rfl
    (fun f fn hf hfn => by
      obtain rfl : f = 8 := Option.some.inj ((show Tryz.prog.funcNamed Rows.replicaLooksRow.func = some 8 by kernel_rfl).symm.trans hf) |>.symm
      obtain rfl : fn = Tryz.f8 := (Option.some.inj (Tryz.func8.symm.trans hfn)).symm
      refine ⟨by kernel_rfl, fun j t ht => ?_⟩
      rw [Tryz.params8] at ht
      rcases j with _ | j
      · obtain rfl : t = 101 := by simpa using ht.symm
        exact (show Tryz.prog.wantsStandIn 101 = false by kernel_rfl)
      rcases j with _ | j
      · obtain rfl : t = 104 := by simpa using ht.symm
        exact (show Tryz.prog.wantsStandIn 104 = false by kernel_rfl)
      · simp at ht)
    (by kernel_rfl)
#print axioms ReplicaLooks_holds
end Go.Proofs.YtcpmcadgknfpjaaGreatDoor

