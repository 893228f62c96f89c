/- For every input that the row allows, the law IdTells returns true and each argument reads afterwards as before; the tables of the library that the row lists lie as its text lays them. -/
import Derived.Test.YthfemmcodfajaaaDoorFwR
import Derived.Test.YthfemmcodfajaaaDoorD5
import Derived.Test.YthfemmcodfajaaaDoorRows
import Derived.WalkKit
import Derived.ProofKit
import Derived.OpenShut
import Derived.ChangeOld
import Derived.Below
import Derived.SizedLaws
import Derived.LaidLaws
import Derived.WideWitness
import Derived.Stop.Joined
import Derived.Stood8
import Derived.Lib.LaidIn
import Derived.Lib.LaidU8
import Derived.Deep.DeepHandedRow
import Derived.Deep.DeepWitnessRowRef
set_option linter.unusedVariables false
set_option linter.unusedSimpArgs false
namespace Go.Proofs.YthfemmcodfajaaaDoor
open Go.ChangeShapes Go.WideShapes Go.ChangeAt Go.RowKit Go.Sv
set_option linter.unusedVariables false
theorem own : ownKnob Tryd.prog.godebug = none := by kernel_rfl
theorem laidOut : laidOutB Tryd.prog = true := by kernel_rfl
def tab32 : List Int := [0, 1, 28, 2, 29, 14, 24, 3, 30, 22, 20, 15, 25, 17, 4, 8, 31, 27, 13, 23, 21, 19, 16, 7, 26, 12, 18, 6, 11, 5, 10, 9]
def tab64 : List Int := [0, 1, 56, 2, 57, 49, 28, 3, 61, 58, 42, 50, 38, 29, 17, 4, 62, 47, 59, 36, 45, 43, 51, 22, 53, 39, 33, 30, 24, 18, 12, 5, 63, 55, 48, 27, 60, 41, 37, 16, 46, 35, 44, 21, 52, 32, 23, 11, 54, 26, 40, 15, 34, 20, 31, 10, 25, 14, 19, 9, 13, 8, 7, 6]
noncomputable def laidWorld (os : Os) : World :=
  let w0 := World.holding Tryd.prog os ⟨#[], #[], []⟩
  let put (h : Array Obj) (g : Nat) (cs : Array Value) : Array Obj := h.modify g fun
    | .cells _ t frozen => .cells cs t frozen
    | o => o
  let h1 := put w0.heap 0 (Lib.pow10Tab.map fun z => Value.int .u64 z).toArray
  let h2 := put h1 2 (tab32.map fun z => Value.int .u8 z).toArray
  let h3 := put h2 3 (tab64.map fun z => Value.int .u8 z).toArray
  { w0 with heap := h3 }
theorem laid_met (os : Os) (args : Array Value) : laidMet Tryd.prog Rows.idTellsRow.laid ((laidWorld os).forCall (fun _ _ => 0) ⟨#[], args, []⟩).memory :=
  (LaidIn.of_run [2, 3, 0] 8 (by kernel_rfl) (by kernel_rfl) (by kernel_rfl) (by kernel_rfl)).met
noncomputable abbrev spec : OpenSpec := OpenSpec.ofChange Rows.idTellsSpec
noncomputable def wit : Array Value := #[.agg #[.int .i64 0, .int .i64 0], .agg #[.int .i64 0, .int .i64 0], .slice none 0 0]
theorem witness_row (os : Os) {H : Type} (enc : TypeId × Value → H) :
    spec.preRow enc Tryd.prog Tryd.f3 Rows.idTellsRow.domain false Rows.idTellsRow.laid ((laidWorld os).forCall (fun _ _ => 0) ⟨#[], wit, []⟩).memory wit := by
  have hw : (DataW.whole enc Tryd.prog ((laidWorld os).forCall (fun _ _ => 0) ⟨#[], wit, []⟩).memory Tryd.f3.params.toList spec.vars false wit.toList 8).map (fun x => (x.1, x.2.1)) =
      some ([.agg [.lit (.int .i64 0), .lit (.int .i64 0)], .agg [.lit (.int .i64 0), .lit (.int .i64 0)], .nil], []) := by kernel_rfl
  obtain ⟨⟨x1, x2, x3⟩, hx, hx1⟩ := Option.map_eq_some_iff.1 hw
  simp only [Prod.mk.injEq] at hx1
  obtain ⟨rfl, rfl⟩ := hx1
  exact OpenSpec.preRow_of_cond 8 hx (by kernel_rfl) (fun k hk => by cases hk) (by kernel_rfl) (laid_met os _)
/-- A struct argument of two ints, opened. -/
theorem openStruct2 {H : Type} {enc : TypeId × Value → H} {P : Program} {W : World} {b0 : Nat} {t : TypeId} {fs : Array Field} {f0 f1 : Field} {k0 k1 : IntKind} {v : Value} {d : DataW H} {ps : List MemPlace} (ht : P.underlying t = some (.struct fs)) (hc : P.cellsOf t = 2) (hf0 : fs[0]? = some f0) (hf1 : fs[1]? = some f1)
    (o0 : f0.offset = 0) (o1 : f1.offset = 1) (h0 : P.underlying f0.type = some (.int k0)) (h1 : P.underlying f1.type = some (.int k1)) (c0 : P.cellsOf f0.type = 1) (c1 : P.cellsOf f1.type = 1)
    (hok : Value.okWide P W .any b0 t v) (h : DataW.Trod enc P W 0 (fun _ => true) true t v d ps) :
    ∃ a b, v = .agg #[.int k0 a, .int k1 b] := by
  obtain ⟨cs, rfl, hcs⟩ := okWide_struct ht hok
  obtain ⟨n, hn⟩ := h
  obtain ⟨ds, hl, hr, a, b, rfl, _, _⟩ := openEl_int2 ht hc hf0 hf1 o0 o1 h0 h1 c0 c1 n _ _ hn
  have hsz : cs.size = 2 := hcs.trans hc
  refine ⟨a, b, ?_⟩
  have e0 : cs.toList[0]? = some (.int k0 a) := by
    have hlt : 0 < cs.toList.length := by simp; omega
    have := hr 0 _ cs.toList[0] rfl (List.getElem?_eq_getElem hlt)
    rw [List.getElem?_eq_getElem hlt]
    exact congrArg some (rep_v (γ := fun _ => (0, 0)) (.d _ _ this))
  have e1 : cs.toList[1]? = some (.int k1 b) := by
    have hlt : 1 < cs.toList.length := by simp; omega
    have := hr 1 _ cs.toList[1] rfl (List.getElem?_eq_getElem hlt)
    rw [List.getElem?_eq_getElem hlt]
    exact congrArg some (rep_v (γ := fun _ => (0, 0)) (.d _ _ this))
  congr 1
  apply Array.toList_inj.1
  apply List.ext_getElem?
  intro j
  match j with
  | 0 => exact e0
  | 1 => exact e1
  | j + 2 => rw [List.getElem?_eq_none (by simp; omega), List.getElem?_eq_none (by simp)]
theorem rows_ids {xs : List (List D)} (h : ∀ cs, cs ∈ xs → ∃ a b, cs = [.v (.int .i64 a), .v (.int .i64 b)] ∧ (Lit.int .i64 a).wf = true ∧ (Lit.int .i64 b).wf = true) : ∃ zs : List (Int × Int), xs = zs.map D.idD := by
  induction xs with
  | nil => exact ⟨[], rfl⟩
  | cons c r ih =>
    obtain ⟨a, b, rfl, _, _⟩ := h c (by simp)
    obtain ⟨zs, rfl⟩ := ih fun cs hcs => h cs (by simp [hcs])
    exact ⟨(a, b) :: zs, rfl⟩
theorem rep_id (γ : Ids) (H : HF) (a b : Int) : Rep γ H (D.idv a b) (.agg #[.int .i64 a, .int .i64 b]) :=
  .agg _ [.int .i64 a, .int .i64 b] rfl (args_cons (.d _ _ (.v _ rfl)) (args_cons (.d _ _ (.v _ rfl)) args_nil))
theorem tabIs_of_reads {P : Program} {W : World} {name : String} {k : IntKind} {zs : List Int} {g : Nat} {t e : TypeId} {n : Nat}
    (hg : P.globalNamed name = some g) (hty : (P.globals[g]?).map (·.type) = some t) (ht : P.underlying t = some (.array n e)) (he : P.underlying e = some (.int k)) (hce : P.cellsOf e = 1) (hct : P.cellsOf t = n)
    (h : Lib.VarReads P W name (Lib.tabData k zs)) : Lib.TabIs P W name k zs := by
  obtain ⟨g', t', cs, fuel, p, hg', ht', hvar, hd⟩ := h
  obtain rfl := Option.some.inj (hg.symm.trans hg')
  obtain rfl := Option.some.inj (hty.symm.trans ht')
  unfold Lib.TabIs
  rw [hvar, ← Lib.cells_of_tab ht he hce hct hd]
theorem gT : Tryd.prog.globalNamed "internal/strconv.uint64pow10" = some 0 := by kernel_rfl
set_option maxRecDepth 100000 in
set_option maxHeartbeats 2000000 in
theorem lifted (os : Os) (started : os.Started) (H : Type) (enc : TypeId × Value → H) (F : Stop.Interp) :
    ReturnsInHanded {} Tryd.checked os 3 .any (spec.preRow enc Tryd.prog Tryd.f3 Rows.idTellsRow.domain false Rows.idTellsRow.laid) ((spec.at F).post enc Tryd.prog Tryd.f3 false true false false) := by
  refine returnsInHanded_of_row (C := Tryd.checked) (s := spec) own started (by kernel_rfl) Tryd.func3
    (witness_row_atRef (enc := enc) (C := Tryd.checked) false (laidWorld os) wit rfl (by kernel_rfl) (by kernel_rfl) (by kernel_rfl) (witness_row os enc)) ?_
  intro W base args ds gs before hval0 hW hcnd0 hsz _ hL _ _
  clear hcnd0 hsz
  have hval : ∀ (j : Nat) t v, Tryd.f3.params[j]? = some t → args[j]? = some v → Value.okWide Tryd.prog W .any base t v := hval0
  have hW' := hW
  obtain ⟨p, q, hA0, hV0, rfl, _, _⟩ := hW
  have hA : DataW.TrodAll enc Tryd.prog W 0 (fun _ => true) true Tryd.f3.params.toList args.toList ds p := hA0
  rw [Tryd.params3] at hA hval
  obtain ⟨v0, vs0, d0, ds0, p0, q0, hargs, rfl, rfl, h0, r0⟩ := trodAll_cons hA
  obtain ⟨v1, vs1, d1, ds1, p1, q1, rfl, rfl, rfl, h1, r1⟩ := trodAll_cons r0
  obtain ⟨v2, vs2, d2, ds2, p2, q2, rfl, rfl, rfl, h2, r2⟩ := trodAll_cons r1
  obtain ⟨rfl, rfl, rfl⟩ := trodAll_nil r2
  obtain rfl : args = #[v0, v1, v2] := by cases args; simp_all
  obtain ⟨rfl, rfl⟩ := trodVars_none hV0
  have lt0 : ∀ x ∈ p0, x.block < W.heap.size := by obtain ⟨m, hm⟩ := h0; exact DataW.trod_lt m _ _ _ hm
  have lt1 : ∀ x ∈ p1, x.block < W.heap.size := by obtain ⟨m, hm⟩ := h1; exact DataW.trod_lt m _ _ _ hm
  have lt2 : ∀ x ∈ p2, x.block < W.heap.size := by obtain ⟨m, hm⟩ := h2; exact DataW.trod_lt m _ _ _ hm
  have o0 := hval 0 23 v0 rfl rfl
  have o1 := hval 1 23 v1 rfl rfl
  have o2 := hval 2 24 v2 rfl rfl
  clear hA0 hV0 hval0 hval hA
  obtain ⟨a, b, rfl⟩ := openStruct2 Tryd.underlying23 (by kernel_rfl) rfl rfl rfl rfl Tryd.underlying2 Tryd.underlying3 (by kernel_rfl) (by kernel_rfl) o0 h0
  obtain ⟨c, e, rfl⟩ := openStruct2 Tryd.underlying23 (by kernel_rfl) rfl rfl rfl rfl Tryd.underlying2 Tryd.underlying3 (by kernel_rfl) (by kernel_rfl) o1 h1
  obtain ⟨A, l, cap, rfl⟩ := okWide_slice Tryd.underlying24 o2
  obtain ⟨x, hr, xs, hx, hG⟩ := openArg (openEl_slice Tryd.underlying24 (k := 2) (by kernel_rfl) (by decide) (openEl_int2 Tryd.underlying23 (by kernel_rfl) rfl rfl rfl rfl Tryd.underlying2 Tryd.underlying3 (by kernel_rfl) (by kernel_rfl))) rfl h2
  simp only [List.cons.injEq, and_true] at hx
  subst hx
  obtain ⟨zs, rfl⟩ := rows_ids hG
  have htab : Lib.TabIs Tryd.prog W "internal/strconv.uint64pow10" .u64 Lib.pow10Tab := by
    have := Lib.laidMet.reads hL (.tail _ (.tail _ (.head _)))
    exact tabIs_of_reads (t := 145) (e := 98) (n := 20) gT (by kernel_rfl) (by kernel_rfl) (by kernel_rfl) (by kernel_rfl) (by kernel_rfl) this
  refine ((D.Tells_c (a, b) (c, e) zs).calls W htab [.agg #[.int .i64 a, .int .i64 b], .agg #[.int .i64 c, .int .i64 e], .slice A l cap] rfl (args_cons (rep_id _ _ a b) (args_cons (rep_id _ _ c e) (args_cons (.d _ _ hr) args_nil)))).mono fun e W' ⟨he, bel⟩ => ?_
  subst he
  have e1 : (spec.at F).fn H ([d0, d1, d2] ++ []) = { results := [.lit (.bool true)], args := [d0, d1, d2] } := rfl
  refine ⟨_, rfl, _, _, _, [], p0 ++ (p1 ++ (p2 ++ [])), [], hW', ?_, ?_, ?_, bel.frame _, fun h => by cases h⟩
  · rw [e1]; exact trodAll_mk1 (shut_bool Tryd.underlying4 _)
  · rw [e1]
    exact trodAll_cons_mk (Below.trod laidOut (by kernel_rfl) (of_decide_eq_true (by kernel_rfl)) h0 bel lt0)
      (trodAll_cons_mk (Below.trod laidOut (by kernel_rfl) (of_decide_eq_true (by kernel_rfl)) h1 bel lt1)
      (trodAll_cons_mk (Below.trod laidOut (by kernel_rfl) (of_decide_eq_true (by kernel_rfl)) h2 bel lt2) trodAll_mk0))
  · rw [e1]; rfl
theorem idTells_over : Rows.IdTellsSaid :=
  OpenClaim.holds_of_cond 3 Tryd.f3 rfl rfl rfl rfl rfl rfl rfl ⟨rfl, rfl, rfl, rfl, rfl⟩ rfl rfl rfl rfl rfl (by kernel_rfl) Tryd.func3 (by kernel_rfl)
    (of_decide_eq_true (by kernel_rfl)) (by unfold Func.isWrapper; first | (rw [if_pos (by decide +kernel)]; kernel_rfl) | (rw [if_neg (by decide +kernel)]; exact ⟨rfl, rfl⟩))
    (fun os started H enc _ F0 => by rw [OpenClaim.pre_eq_preRow]; exact lifted os started H enc F0)
end Go.Proofs.YthfemmcodfajaaaDoor
