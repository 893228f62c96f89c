/- Rows handed back; nil as data. -/
import Derived.Test.YthfemmcodfajaaaDoorGW
set_option linter.unusedVariables false
set_option linter.unusedSimpArgs false
namespace Go.Gv
open Go.RowKit
/-- A nil slice, as data. -/
theorem SJ.nilD {X : Cx} {t : T} {σ : Sg} (j k : Nat) (hj : look j t = some (.d (.v (.slice none 0 0)))) : SJ X t σ ((j, .d (.sl k [])) :: t) σ :=
  SJ.view j hj fun γ H u r => by
    obtain rfl := rep_v r
    exact .d _ _ (.sl k [] none 0 0 0 (fun _ _ => undef) (fun _ h => by simp at h) (Nat.le_refl _) (by simp) (fun h => by simp at h) (fun _ _ h => by simp at h) (fun _ _ _ _ h => by simp at h))
theorem SJ.fullD {X : Cx} {t : T} {σ : Sg} (j : Nat) {k : Nat} {xs : List (List D)} (hj : look j t = some (.full k xs)) : SJ X t σ ((j, .d (.sl k xs)) :: t) σ :=
  SJ.view j hj fun γ H u r => by
    cases r with
    | full _ _ A h => exact .d _ _ h
theorem rep_tup_set {γ : Ids} {H : HF} {vs : List AV} {u : Value} {j : Nat} {a a' : AV} (r : Rep γ H (.tup vs) u) (hj : vs[j]? = some a) (h : ∀ u, Rep γ H a u → Rep γ H a' u) : Rep γ H (.tup (vs.set j a')) u := by
  cases r with
  | tup _ us hl hr =>
    refine .tup _ us (by simp [hl]) fun l b v hb hv => ?_
    rw [List.getElem?_set] at hb
    by_cases e : j = l
    · subst e
      rw [if_pos rfl] at hb
      split at hb
      · cases hb; exact h v (hr j a v hj hv)
      · cases hb
    · rw [if_neg e] at hb; exact hr l b v hb hv
theorem rep_agg_set {γ : Ids} {H : HF} {vs : List AV} {u : Value} {j : Nat} {a a' : AV} (r : Rep γ H (.agg vs) u) (hj : vs[j]? = some a) (h : ∀ u, Rep γ H a u → Rep γ H a' u) : Rep γ H (.agg (vs.set j a')) u := by
  cases r with
  | agg _ us hl hr =>
    refine .agg _ us (by simp [hl]) fun l b v hb hv => ?_
    rw [List.getElem?_set] at hb
    by_cases e : j = l
    · subst e
      rw [if_pos rfl] at hb
      split at hb
      · cases hb; exact h v (hr j a v hj hv)
      · cases hb
    · rw [if_neg e] at hb; exact hr l b v hb hv
theorem arr_pub {γ : Ids} {H : HF} {i k n : Nat} {xs : List (List D)} (hp : PubOk γ H i (.a k xs)) (hn : n ≤ xs.length) (hm : n ≤ 9223372036854775807) {u : Value} (r : Rep γ H (.arr i k n) u) : Rep γ H (.d (.sl k (xs.take n))) u := by
  cases r with
  | arr _ _ _ A h1 hA => exact .d _ _ (hp n A hn h1 hA hm)
/-- A row among results is given to all. -/
theorem FinP.pubTup {X : Cx} {σ : Sg} {vs : List AV} {Q : AV → Sg → Prop} (i j : Nat) {k n : Nat} {xs : List (List D)} (hi : look i σ = some (.arr k xs)) (hj : vs[j]? = some (.arr i k n)) (hn : n ≤ xs.length) (hm : n ≤ 9223372036854775807)
    (kk : FinP X ((i, .gone) :: σ) (.tup (vs.set j (.d (.sl k (xs.take n))))) Q) : FinP X σ (.tup vs) Q :=
  let ⟨σ', r', h1, hc, hq⟩ := kk
  ⟨σ', r', .pub i hi rfl (fun _ _ _ ok rr => rep_tup_set rr hj fun _ => arr_pub ok hn hm) (by rw [subS_a]; exact h1), hc, hq⟩
/-- A result in another view. -/
theorem FinP.viewTup {X : Cx} {σ : Sg} {vs : List AV} {Q : AV → Sg → Prop} (j : Nat) {a a' : AV} (hj : vs[j]? = some a) (h : ∀ γ H u, Rep γ H a u → Rep γ H a' u) (kk : FinP X σ (.tup (vs.set j a')) Q) : FinP X σ (.tup vs) Q :=
  FinP.view (fun γ H _ rr => rep_tup_set rr hj (h γ H)) kk
theorem nil_sl {γ : Ids} {H : HF} (k : Nat) {u : Value} (r : Rep γ H (.d (.v (.slice none 0 0))) u) : Rep γ H (.d (.sl k [])) u := by
  obtain rfl := rep_v r
  exact .d _ _ (.sl k [] none 0 0 0 (fun _ _ => undef) (fun _ h => by simp at h) (Nat.le_refl _) (by simp) (fun h => by simp at h) (fun _ _ h => by simp at h) (fun _ _ _ _ h => by simp at h))
/-- A range over a function, as it is used: what it turns, and what stays. -/
theorem WJ.rangeK {α V : Type} (enc : α → List AV) (L : List α) (S0 : V → Sg) (ks : List Nat) (I : List α → V → Prop) (Ix : Code → List α → V → Prop)
    {X : Cx} {g : Operand} {ps : Array Nat} {assign body : Code} {t : T} {σ : Sg} {Q : Qt} (v0 : V) {gf : FuncId} {caps : List AV} {av : AV} {M : List (List AV)} (hit : Iter X.Λ X.P gf caps M) (hM : M = L.map enc) (hg : ge t g = some av) (hf : FnIs av gf caps) (hcap : caps.all AV.open = true) (hok : callOk X.P gf)
    (hfl : flatT t = true) (hps : ps.toList.all (fun p => Nat.blt p X.N) = true) (hen : ∀ x, (enc x).length = ps.size) (hs : Has (S0 v0) σ) (h0 : I [] v0)
    (round : ∀ l, RoundP enc L (fun v => S0 v ++ keepG ks σ) I Ix X.P X.Λ X.N l (X.pin ++ namesOf t) ps.toList assign body t)
    (done : ∀ v, I L v → Q .normal t (S0 v ++ keepG ks σ)) (stop : ∀ c p v, Ix c p v → vc X c t (S0 v ++ keepG ks σ) Q) : WJ X (.rangeFunc g ps assign body) t σ Q :=
  WJ.rangeF enc L (fun v => S0 v ++ keepG ks σ) I Ix v0 hg hf hcap hok (hM ▸ hit) hfl hps hen (hs.wk.app (keepG_wk _ _)) h0 round done stop
end Go.Gv
