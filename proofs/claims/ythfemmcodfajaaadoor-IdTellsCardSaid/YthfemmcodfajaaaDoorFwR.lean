/- From a contract under a fact on the world to the kit's call. -/
import Derived.Test.YthfemmcodfajaaaDoorFwQ
import Derived.Test.YthfemmcodfajaaaDoorFwL
set_option linter.unusedVariables false
set_option linter.unusedSimpArgs false
namespace Go.Sv
open Go.RowKit
theorem FnL.calls {Λ : Amb} {P : Program} {f : FuncId} {avs : List AV} {V : Value} (h : FnL Λ P f avs (fun r _ => r = .d (.v V))) (w : World) (hΛ : Λ.p w) (vs : List Value) (hl : vs.length = avs.length)
    (hr : ∀ (j : Nat) (a : AV) (u : Value), avs[j]? = some a → vs[j]? = some u → Rep (fun _ => (0, 0)) (cellH w) a u) :
    Calls P f vs.toArray w fun e w' => e = .returned V ∧ Below w.heap.size w w' := by
  have := h none (fun _ => (0, 0)) (cellH w) w vs hΛ (fun b o v h => h) hl hr
  refine (callsIn_wide.1 this).mono fun e w' ⟨v, r, σ, γ', H', he, hq, hrep, hm⟩ => ?_
  subst hq
  cases hrep with
  | d _ _ hd => cases hd with
    | v _ _ => exact ⟨he, hm.keep.below fun _ => id⟩

section
variable {H : Type} {enc : TypeId × Value → H} {P : Program} {W : World}
/-- A struct of two ints. -/
theorem openEl_int2 {e : TypeId} {fs : Array Field} {f0 f1 : Field} {k0 k1 : IntKind} (he : P.underlying e = some (.struct fs)) (hc : P.cellsOf e = 2) (hf0 : fs[0]? = some f0) (hf1 : fs[1]? = some f1)
    (o0 : f0.offset = 0) (o1 : f1.offset = 1) (h0 : P.underlying f0.type = some (.int k0)) (h1 : P.underlying f1.type = some (.int k1)) (c0 : P.cellsOf f0.type = 1) (c1 : P.cellsOf f1.type = 1) :
    OpenEl enc P W e (fun ds => ∃ a b, ds = [.v (.int k0 a), .v (.int k1 b)] ∧ (Lit.int k0 a).wf = true ∧ (Lit.int k1 b).wf = true) := by
  intro n cs x hx
  obtain ⟨xs, m, _, _, hl, _, hfld⟩ := DataW.trod_struct he hx
  rw [hc] at hl
  match cs, hl with
  | [u, v], _ =>
    have g0 := hfld 0 f0 hf0
    have g1 := hfld 1 f1 hf1
    rw [o0, c0] at g0
    rw [o1, c1] at g1
    simp only [List.drop_zero, List.drop_succ_cons, List.take_succ_cons, List.take_zero] at g0 g1
    have i0 : ∃ y, xs[0]? = some y := by
      cases hy : xs[0]? with
      | none =>
        have := hfld 0 f0 hf0
        rename_i hsz
        rw [List.getElem?_eq_none_iff] at hy
        have hs : fs.size = 0 := by omega
        have := (Array.getElem?_eq_some_iff.1 hf0).1
        omega
      | some y => exact ⟨y, rfl⟩
    have i1 : ∃ y, xs[1]? = some y := by
      cases hy : xs[1]? with
      | none =>
        rename_i hsz
        rw [List.getElem?_eq_none_iff] at hy
        have := (Array.getElem?_eq_some_iff.1 hf1).1
        omega
      | some y => exact ⟨y, rfl⟩
    obtain ⟨y0, e0⟩ := i0
    obtain ⟨y1, e1⟩ := i1
    rw [e0] at g0
    rw [e1] at g1
    obtain ⟨a, ha, _, wa⟩ := DataW.trod_int h0 g0
    obtain ⟨b, hb, _, wb⟩ := DataW.trod_int h1 g1
    simp only [List.cons.injEq, and_true] at ha hb
    subst ha; subst hb
    refine ⟨_, rfl, fun j d w hd hw => ?_, a, b, rfl, wa, wb⟩
    match j with
    | 0 => simp at hd hw; subst hd; subst hw; exact .v _ rfl
    | 1 => simp at hd hw; subst hd; subst hw; exact .v _ rfl
    | j + 2 => simp at hd
end
end Go.Sv
