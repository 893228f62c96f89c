/- Loops that keep what is private, but for what is named. -/
import Derived.Test.YthfemmcodfajaaaDoorG16
set_option linter.unusedVariables false
set_option linter.unusedSimpArgs false
namespace Go.Gv
open Go.RowKit
universe u
def keepG {α : Type u} (ws : List Nat) : List (Nat × α) → List (Nat × α)
  | [] => []
  | (i, a) :: t => match memN i ws with
    | true => keepG ws t
    | false => (i, a) :: keepG (i :: ws) t
theorem keepG_not {α : Type u} : ∀ {ws : List Nat} {t : List (Nat × α)} {i : Nat}, memN i ws = true → look i (keepG ws t) = none
  | ws, [], i, _ => rfl
  | ws, (j, a) :: t, i, h => by
    simp only [keepG]
    split
    · exact keepG_not h
    · next hj =>
      rw [look_cons]
      have : i ≠ j := fun e => by subst e; rw [h] at hj; cases hj
      rw [if_neg this]
      exact keepG_not (by rw [memN_cons]; simp [h])
theorem keepG_wk {α : Type u} : ∀ (ws : List Nat) (t : List (Nat × α)), Wk (keepG ws t) t
  | ws, [], i, b, h => by simp [keepG, look] at h
  | ws, (j, a) :: t, i, b, h => by
    simp only [keepG] at h
    rw [look_cons]
    split at h
    · next hj =>
      have : i ≠ j := fun e => by
        subst e
        rw [keepG_not hj] at h; cases h
      rw [if_neg this]
      exact keepG_wk ws t i b h
    · rw [look_cons] at h
      split at h
      · next e => rw [if_pos e]; exact h
      · next e => rw [if_neg e]; exact keepG_wk (j :: ws) t i b h
theorem Wk.app {α : Type u} {a b l : List (Nat × α)} (h : Wk a l) (k : Wk b l) : Wk (a ++ b) l := fun i x hi => by
  rw [look_append] at hi
  cases hx : look i a with
  | some y => rw [hx, Option.some_or] at hi; rw [← hi]; exact h i y hx
  | none => rw [hx] at hi; simp only [Option.none_or] at hi; exact k i x hi
theorem WJ.loopK {X : Cx} {c : Code} {t : T} {σ : Sg} {Q : Qt} {V : Type} (T0 : V → T) (S0 : V → Sg) (ks : List Nat) (μ : V → Nat) (I : V → Prop) (v0 : V) (h0 : I v0) (ht : Has (T0 v0) t) (hs : Has (S0 v0) σ)
    (round : ∀ v, I v → vc X c (T0 v ++ keepT (writes c []) t) (S0 v ++ keepG ks σ) fun e t' σ' => match e with
      | .normal => ∃ v', I v' ∧ μ v' < μ v ∧ Has (T0 v') t' ∧ Has (keepT (writes c []) t) t' ∧ Has (S0 v') σ' ∧ Has (keepG ks σ) σ'
      | e => Q e t' σ') : WJ X (.loop c) t σ Q := by
  refine WJ.loop (fun n t' σ' => ∃ v, I v ∧ n = μ v ∧ Wk (T0 v ++ keepT (writes c []) t) t' ∧ Wk (S0 v ++ keepG ks σ) σ') (μ v0) ⟨v0, h0, rfl, ht.wk.app (keepT_wk _ _), hs.wk.app (keepG_wk _ _)⟩ ?_
  rintro n t' σ' ⟨v, hv, rfl, ht', hs'⟩
  refine WJ.wk ht' hs' ((vc_sound _ _ _ _ (round v hv)).mono fun e t'' σ'' q => ?_)
  cases e with
  | normal =>
    obtain ⟨v', h1, h2, h3, h4, h5, h6⟩ := q
    exact ⟨μ v', h2, v', h1, rfl, h3.wk.app h4.wk, h5.wk.app h6.wk⟩
  | exit id => exact q
  | goto l => exact q
  | ret => exact q
  | panic ch => exact q
  | outgrown => exact q
end Go.Gv
