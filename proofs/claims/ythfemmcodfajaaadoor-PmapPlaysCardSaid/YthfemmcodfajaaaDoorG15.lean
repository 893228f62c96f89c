/- A contract out of what is reckoned; loops. -/
import Derived.Test.YthfemmcodfajaaaDoorG14
set_option linter.unusedVariables false
set_option linter.unusedSimpArgs false
namespace Go.Gv
open Go.RowKit
universe u

theorem resV_sound {X : Cx} {γ : Ids} {H : HF} {t : T} {σ : Sg} {a : Act} {w : World} (s : St X γ H t σ a w) {rv : ResultVar} {r : AV} (h : resV X t σ rv = some r) :
    ∃ v, (match rv with
      | .tmp t => pure (a.tmps.getD t undef)
      | .cell c t => do loadVar t (← asAddr (a.tmps.getD c undef)) : Sem Value).run X.P w = .ok v w ∧ Rep γ H r v := by
  cases rv with
  | tmp i =>
    obtain ⟨u, hu, hr⟩ := s.tmp i r h
    exact ⟨u, by simp [Array.getD_eq_getD_getElem?, hu], hr⟩
  | cell i ty =>
    simp only [resV] at h
    split at h
    · next j off hi =>
      obtain ⟨u, hu, hr⟩ := s.tmp i _ hi
      have hq := rep_box rfl hr
      split at h
      · next cs hj =>
        obtain ⟨tt, us, h2, h3, h4⟩ := s.mem.ent j _ hj
        split at h
        · next n ha hs =>
          split at h
          · next hb =>
            cases h
            have hle := Nat.le_of_ble_eq_true hb
            have := loadVar_agg (P := X.P) (w := w) (b := (γ j).b) (off := off) (us := (us.drop off).take n) (aggOf_run ha) (szOf_run hs) (by simp; omega) (fun l hl => by
              rw [cell_of_block h2, List.getElem?_take, if_pos hl, List.getElem?_drop])
            exact ⟨_, by simp [Array.getD_eq_getD_getElem?, hu, hq, asAddr, this], rep_cut h3 h4⟩
          · cases h
        · next _ ha =>
          have hlt : off < us.length := by rw [h3]; exact (List.getElem?_eq_some_iff.1 h).1
          have hc : w.cell? ⟨(γ j).b, off, none⟩ = some us[off] := by rw [cell_of_block h2]; simp [hlt]
          exact ⟨us[off], by simp [Array.getD_eq_getD_getElem?, hu, hq, asAddr, loadVar_one (aggOf_run ha) hc], h4 _ r _ h (by simp [hlt])⟩
        · cases h
      · cases h
    · cases h

theorem resAll_sound {X : Cx} {γ : Ids} {H : HF} {t : T} {σ : Sg} {a : Act} {w : World} (s : St X γ H t σ a w) : ∀ {l : List ResultVar} {rs : List AV}, resAll X t σ l = some rs →
    ∃ vs : List Value, (l.mapM (fun
      | .tmp t => pure (a.tmps.getD t undef)
      | .cell c t => do loadVar t (← asAddr (a.tmps.getD c undef)) : ResultVar → Sem Value)).run X.P w = .ok vs w ∧ vs.length = rs.length ∧ ∀ (j : Nat) (x : AV) (u : Value), rs[j]? = some x → vs[j]? = some u → Rep γ H x u
  | [], rs, h => by
    simp only [resAll, Option.some.injEq] at h; subst h
    exact ⟨[], by simp, rfl, fun j x u h => by simp at h⟩
  | r :: l, rs, h => by
    simp only [resAll] at h
    split at h
    · next av hr =>
      split at h
      · next as hl =>
        simp only [Option.some.injEq] at h; subst h
        obtain ⟨v, hv, rep⟩ := resV_sound s hr
        obtain ⟨vs, hvs, hlen, reps⟩ := resAll_sound s hl
        refine ⟨v :: vs, ?_, by simp [hlen], fun j x u hx hu => ?_⟩
        · simp only [List.mapM_cons, Sem.run_bind, hv, Result.andThen_ok, hvs, Sem.run_pure]
        · cases j with
          | zero => simp at hx hu; subst hx; subst hu; exact rep
          | succ j => exact reps j x u (by simpa using hx) (by simpa using hu)
      · cases h
    · cases h

theorem vRet_sound {X : Cx} {fn : Func} {Q : AV → Sg → Prop} {e : Exit} {t : T} {σ : Sg} (h : vRet X fn Q e t σ) : Ret X fn Q e t σ := by
  have key : (match resAll X t σ fn.results.toList with
    | some rs => FinP X σ (one rs) Q
    | none => False) → ∃ r σ', RetIs X fn t σ r σ' ∧ closedB X.pin r σ' ∧ Q r σ' := fun h => by
    split at h
    · next rs hrs =>
      obtain ⟨σ', r', hw, hc, hq⟩ := h
      refine ⟨r', σ', fun γ H a w s => ?_, hc, hq⟩
      obtain ⟨vs, hvs, hlen, reps⟩ := resAll_sound s hrs
      have hm : (fn.results.mapM (fun
        | .tmp t => pure (a.tmps.getD t undef)
        | .cell c t => do loadVar t (← asAddr (a.tmps.getD c undef)) : ResultVar → Sem Value)).run X.P w = .ok vs.toArray w := by
        rw [Array.mapM_eq_mapM_toList]
        simp only [Sem.run_map, hvs, Result.andThen_ok]
      have hres : (results fn a.tmps).run X.P w = .ok (if h : vs.toArray.size = 1 then vs.toArray[0] else .tuple vs.toArray) w := by
        unfold results
        simp only [Sem.run_bind]
        refine (congrArg (fun r => Result.andThen r _) hm).trans ?_
        simp only [Result.andThen_ok, Sem.run_pure]
      suffices hr : Rep γ H (one rs) (if h : vs.toArray.size = 1 then vs.toArray[0] else .tuple vs.toArray) by
        obtain ⟨H', s', r⟩ := hw.sound s hr
        exact ⟨_, γ, H', hres, s', r⟩
      clear hrs hvs hm hres hw hc hq
      match rs, vs, hlen, reps with
      | [], [], _, _ => exact .tup [] [] rfl fun j x u h => by simp at h
      | [r], [v], _, reps => exact reps 0 r v rfl rfl
      | r :: r' :: rs, v :: v' :: vs, hlen, reps =>
        have : ¬ ((v :: v' :: vs).toArray.size = 1) := by simp
        rw [dif_neg this]
        exact .tup _ _ hlen reps
    · exact h.elim
  cases e <;> first | exact key h | exact h

/-- **A contract, out of what is reckoned.** -/
theorem Ct.of_vc {Λ : Amb} {P : Program} {f : FuncId} (fn : Func) {c : Code} {avs : List AV} {σ : Sg} {Q : AV → Sg → Prop} (hf : P.funcs[f]? = some fn) (hb : fn.body = some c)
    (hl : Nat.ble avs.length fn.ntmps = true)
    (h : ∀ w H B g0, vc ⟨P, Λ, none, w, H, B, fn.ntmps, pinsOf σ, g0⟩ c (numbered 0 avs) σ (vRet ⟨P, Λ, none, w, H, B, fn.ntmps, pinsOf σ, g0⟩ fn Q)) : Ct Λ P f avs σ Q :=
  Ct.of_wj fn.ntmps hf hb rfl (Nat.le_of_ble_eq_true hl) fun w H B g0 => (vc_sound _ _ _ _ (h w H B g0)).mono fun _ _ _ q => vRet_sound q

/-! ### Loops -/
def opsW : List Oper → List Nat → List Nat
  | [], acc => acc
  | o :: r, acc => match o.dst with
    | some d => opsW r (d :: acc)
    | none => opsW r acc
/-- The temporaries that code writes. -/
def writes : Code → List Nat → List Nat
  | .region _ ops _, acc => opsW ops.toList acc
  | .seq a b, acc => writes a (writes b acc)
  | .cond _ a b, acc => writes a (writes b acc)
  | .block _ a, acc => writes a acc
  | .loop a, acc => writes a acc
  | .scope a, acc => writes a acc
  | .rangeFunc _ ps a b, acc => ps.toList ++ writes a (writes b acc)
  | _, acc => acc
def memN (i : Nat) : List Nat → Bool
  | [] => false
  | j :: r => match Nat.beq i j with
    | true => true
    | false => memN i r
/-- What a loop leaves alone. -/
def keepT (ws : List Nat) : T → T
  | [] => []
  | (i, a) :: t => match memN i ws with
    | true => keepT ws t
    | false => (i, a) :: keepT (i :: ws) t
theorem memN_cons {i j : Nat} {ws : List Nat} : memN i (j :: ws) = if i = j then true else memN i ws := by
  simp only [memN]
  by_cases h : i = j
  · subst h; simp
  · have : Nat.beq i j = false := by rw [← Bool.not_eq_true, Nat.beq_eq]; exact h
    simp [this, h]
theorem keepT_not : ∀ {ws : List Nat} {t : T} {i : Nat}, memN i ws = true → look i (keepT ws t) = none
  | ws, [], i, _ => rfl
  | ws, (j, a) :: t, i, h => by
    simp only [keepT]
    split
    · exact keepT_not h
    · next hj =>
      rw [look_cons]
      have : i ≠ j := fun e => by subst e; rw [h] at hj; cases hj
      rw [if_neg this]
      exact keepT_not (by rw [memN_cons]; simp [h])
theorem keepT_wk : ∀ (ws : List Nat) (t : T), Wk (keepT ws t) t
  | ws, [], i, b, h => by simp [keepT, look] at h
  | ws, (j, a) :: t, i, b, h => by
    simp only [keepT] at h
    rw [look_cons]
    split at h
    · next hj =>
      have : i ≠ j := fun e => by
        subst e
        rw [keepT_not hj] at h; cases h
      rw [if_neg this]
      exact keepT_wk ws t i b h
    · rw [look_cons] at h
      split at h
      · next e => rw [if_pos e]; exact h
      · next e => rw [if_neg e]; exact keepT_wk (j :: ws) t i b h

/-- Each entry is there. -/
def Has {α : Type u} : List (Nat × α) → List (Nat × α) → Prop
  | [], _ => True
  | (i, a) :: r, l => look i l = some a ∧ Has r l
theorem Has.wk {α : Type u} : ∀ {l' l : List (Nat × α)}, Has l' l → Wk l' l
  | [], _, _ => Wk.nil _
  | (_, _) :: _, _, h => Wk.cons h.1 h.2.wk

/-- A loop: what varies (V), the temporaries and the private things that it turns, the rest as it was. -/
theorem WJ.loopF {X : Cx} {c : Code} {t : T} {σ : Sg} {Q : Qt} {V : Type} (T0 : V → T) (S0 : V → Sg) (μ : V → Nat) (I : V → Prop) (v0 : V) (h0 : I v0) (ht : Has (T0 v0) t) (hs : Has (S0 v0) σ)
    (round : ∀ v, I v → vc X c (T0 v ++ keepT (writes c []) t) (S0 v) fun e t' σ' => match e with
      | .normal => ∃ v', I v' ∧ μ v' < μ v ∧ Has (T0 v') t' ∧ Has (keepT (writes c []) t) t' ∧ Has (S0 v') σ'
      | e => Q e t' σ') : WJ X (.loop c) t σ Q := by
  refine WJ.loop (fun n t' σ' => ∃ v, I v ∧ n = μ v ∧ Wk (T0 v ++ keepT (writes c []) t) t' ∧ Wk (S0 v) σ') (μ v0) ⟨v0, h0, rfl, ?_, hs.wk⟩ ?_
  · intro i x hi
    rw [look_append] at hi
    cases hx : look i (T0 v0) with
    | some y => rw [hx, Option.some_or] at hi; rw [← hi]; exact ht.wk i y hx
    | none => rw [hx] at hi; simp only [Option.none_or] at hi; exact keepT_wk _ _ i x hi
  · rintro n t' σ' ⟨v, hv, rfl, ht', hs'⟩
    refine WJ.wk ht' hs' ((vc_sound _ _ _ _ (round v hv)).mono fun e t'' σ'' q => ?_)
    cases e with
    | normal =>
      obtain ⟨v', h1, h2, h3, h4, h5⟩ := q
      refine ⟨μ v', h2, v', h1, rfl, fun i x hi => ?_, h5.wk⟩
      rw [look_append] at hi
      cases hx : look i (T0 v') with
      | some y => rw [hx, Option.some_or] at hi; rw [← hi]; exact h3.wk i y hx
      | none => rw [hx] at hi; simp only [Option.none_or] at hi; exact h4.wk i x hi
    | exit id => exact q
    | goto l => exact q
    | ret => exact q
    | panic ch => exact q
    | outgrown => exact q
end Go.Gv
