/- Regions that draw their order, all orders one by one. -/
import Derived.Test.YthfemmcodfajaaaDoorG19
set_option linter.unusedVariables false
set_option linter.unusedSimpArgs false
namespace Go.Gv
open Go.RowKit

section
variable {X : Cx} {all : Array Oper}
/-- The i-th operation, done next. -/
def OneJ (X : Cx) (all : Array Oper) (i : Nat) (t : T) (σ : Sg) (K : T → Sg → Prop) : Prop :=
  ∀ γ H a w, St X γ H t σ a w → ∀ (next : Act → World → Prop) (Q' : Exit → Act → World → Prop), (∀ γ H t σ a w, St X γ H t σ a w → K t σ → next a w) → wpOpIn (Fr X.ro) 0 X.P all Q' i next a w
theorem OneJ.wk {i : Nat} {t t' : T} {σ : Sg} {K : T → Sg → Prop} (hw : Wk t' t) (h : OneJ X all i t' σ K) : OneJ X all i t σ K := fun γ H a w s => h γ H a w (s.wk hw (Wk.refl _))
theorem OneJ.op {i : Nat} {o : Oper} {t : T} {σ : Sg} {K : T → Sg → Prop} (ho : all[i]? = some o) (hg : o.guard = none) (h : OpJ X o t σ K) : OneJ X all i t σ K := by
  intro γ H a w s next Q' hn
  unfold wpOpIn
  simp only [ho]
  have hw : Region.wanted o (yielded all a.tmps) = true := by simp [Region.wanted, hg]
  rw [if_pos hw]
  exact ⟨fun _ _ => trivial, h γ H a w s _ _ hn⟩
theorem OneJ.guard {i : Nat} {o : Oper} {t : T} {σ : Sg} {K : T → Sg → Prop} {j : Nat} {b : Bool} {d : Nat} (ho : all[i]? = some o) (hg : o.guard = some (j, b)) (hd : ((all[j]?).bind (·.dst)) = some d) (hN : dOk o.dst X.N = true)
    (h : match look d t with
      | some (.d (.v (.bool b'))) => (b' = b → OpJ X o t σ K) ∧ (b' ≠ b → K (putT o.dst (.tup []) t) σ)
      | some (.tup []) => K (putT o.dst (.tup []) t) σ
      | _ => False) : OneJ X all i t σ K := by
  intro γ H a w s next Q' hn
  unfold wpOpIn
  simp only [ho]
  have skip : K (putT o.dst (.tup []) t) σ → next (a.put o.dst undef) w := fun h => hn γ H _ _ _ _ (s.calm (s.mem.refl γ) hN rep_undef) h
  split at h
  · next b' hb =>
    obtain ⟨u, hu, r⟩ := s.tmp d _ hb
    obtain rfl := rep_v r
    by_cases e : b' = b
    · have hw : Region.wanted o (yielded all a.tmps) = true := by simp [Region.wanted, hg, yielded, hd, hu, e]
      rw [if_pos hw]
      exact ⟨fun _ _ => trivial, h.1 e γ H a w s _ _ hn⟩
    · have hw : Region.wanted o (yielded all a.tmps) = false := by simp [Region.wanted, hg, yielded, hd, hu]; exact e
      simp only [hw, Bool.false_eq_true, if_false]
      exact ⟨fun _ _ => trivial, skip (h.2 e)⟩
  · next hb =>
    obtain ⟨u, hu, r⟩ := s.tmp d _ hb
    obtain rfl := rep_undef_eq r
    have hw : Region.wanted o (yielded all a.tmps) = false := by simp [Region.wanted, hg, yielded, hd, hu, undef]
    simp only [hw, Bool.false_eq_true, if_false]
    exact ⟨fun _ _ => trivial, skip h⟩
  · exact h.elim

def getB (l : List Bool) (i : Nat) : Bool := match l[i]? with
  | some b => b
  | none => false
def rdyOp (ls : List Bool) (o : Oper) : Bool := o.after.toList.all fun e => match Region.binds .any e with
  | false => true
  | true => getB ls e.on
/-- What may be done next. -/
def rdy (all : Array Oper) (ls : List Bool) : List Nat := (List.range all.size).filter fun i => match ls[i]?, all[i]? with
  | some false, some o => rdyOp ls o
  | _, _ => false
def allP : List Nat → (Nat → Prop) → Prop
  | [], _ => True
  | [i], p => p i
  | i :: j :: r, p => p i ∧ allP (j :: r) p
theorem allP_mem {p : Nat → Prop} : ∀ {l : List Nat}, allP l p → ∀ i, i ∈ l → p i
  | [i], h, k, hk => by simp at hk; subst hk; exact h
  | i :: j :: r, h, k, hk => by
    rcases List.mem_cons.1 hk with rfl | hk
    · exact h.1
    · exact allP_mem (l := j :: r) h.2 k hk
  | [], _, k, hk => by simp at hk

def vO (X : Cx) (all : Array Oper) (Q : T → Sg → Prop) : Nat → List Bool → T → Sg → Prop
  | 0, ls, t, σ => match rdy all ls with
    | [] => Q t σ
    | _ :: _ => False
  | n + 1, ls, t, σ => match rdy all ls with
    | [] => Q t σ
    | l => allP l fun i => match all[i]? with
      | none => False
      | some o => match o.guard with
        | none => eff X o t σ fun t σ => vO X all Q n (ls.set i true) t σ
        | some (j, b0) => match dstOf all j, dOk o.dst X.N with
          | some d, true => (match look d t with
            | some (.d (.v (.bool b))) => grd b0 b d t (fun t => eff X o t σ fun t σ => vO X all Q n (ls.set i true) t σ) (fun t => vO X all Q n (ls.set i true) (putT o.dst (.tup []) t) σ)
            | some (.tup []) => vO X all Q n (ls.set i true) (putT o.dst (.tup []) t) σ
            | _ => False)
          | _, _ => False

theorem rdy_eq (ls : List Bool) : rdy all ls = Region.ready .any all ls.toArray := by
  unfold rdy Region.ready
  apply List.filter_congr
  intro i _
  have g1 : ls.toArray.getD i true = (match ls[i]? with | some b => b | none => true) := by
    rw [Array.getD_eq_getD_getElem?]; cases h : ls[i]? <;> simp [h]
  have g2 : ∀ k, ls.toArray.getD k false = getB ls k := fun k => by
    rw [Array.getD_eq_getD_getElem?, getB]; cases h : ls[k]? <;> simp [h]
  rw [g1]
  cases h : ls[i]? with
  | none => simp
  | some b =>
    cases b with
    | true => simp
    | false =>
      cases ho : all[i]? with
      | none => simp
      | some o =>
        simp only [Bool.not_false, Bool.true_and, Option.map_some, Option.getD_some]
        unfold rdyOp
        rw [← Array.all_toList]
        congr 1
        funext e
        rw [g2]
        cases Region.binds .any e <;> rfl

theorem vO_sound {Q : T → Sg → Prop} {Q' : Exit → Act → World → Prop} (hQ : ∀ γ H t σ a w, St X γ H t σ a w → Q t σ → Q' .normal a w) : ∀ (n : Nat) (ls : List Bool) (t : T) (σ : Sg), vO X all Q n ls t σ →
    ∀ γ H a w, St X γ H t σ a w → wpAnyIn (Fr X.ro) 0 X.P .any all Q' n ls.toArray a w
  | 0, ls, t, σ, h, γ, H, a, w, s => by
    unfold vO at h
    unfold wpAnyIn
    rw [← rdy_eq]
    split at h
    · next hr => exact ⟨hr, hQ γ H t σ a w s h⟩
    · exact h.elim
  | n + 1, ls, t, σ, h, γ, H, a, w, s => by
    unfold vO at h
    unfold wpAnyIn
    rw [← rdy_eq]
    split at h
    · next hr => exact ⟨fun _ => hQ γ H t σ a w s h, fun i hi => by rw [hr] at hi; simp at hi⟩
    · next hr =>
      refine ⟨fun e => absurd e hr, fun i hi => ?_⟩
      have hp := allP_mem h i hi
      have hset : ls.toArray.setIfInBounds i true = (ls.set i true).toArray := by simp
      rw [hset]
      have ih := fun t σ (h : vO X all Q n (ls.set i true) t σ) => vO_sound hQ n (ls.set i true) t σ h
      suffices hone : OneJ X all i t σ (fun t σ => vO X all Q n (ls.set i true) t σ) from hone γ H a w s _ _ fun γ H t σ a w s' k => ih t σ k γ H a w s'
      split at hp
      · exact hp.elim
      · next o ho =>
        split at hp
        · next hg => exact .op ho hg (eff_sound hp)
        · next j b0 hg =>
          split at hp
          · next d hd hN =>
            have hd' : ((all[j]?).bind (·.dst)) = some d := by rw [dstOf_eq]; exact hd
            split at hp
            · next b hb =>
              have yes : ∀ c, b = c → eff X o ((d, .d (.v (.bool c))) :: t) σ (fun t σ => vO X all Q n (ls.set i true) t σ) → c = b0 → OneJ X all i t σ (fun t σ => vO X all Q n (ls.set i true) t σ) := fun c hc he hcb => by
                subst hc; subst hcb
                refine OneJ.wk (Wk.cons hb (Wk.refl t)) (OneJ.guard ho hg hd' hN ?_)
                rw [look_cons, if_pos rfl]
                exact ⟨fun _ => eff_sound he, fun hne => absurd rfl hne⟩
              have no : ∀ c, b = c → vO X all Q n (ls.set i true) (putT o.dst (.tup []) ((d, .d (.v (.bool c))) :: t)) σ → c ≠ b0 → OneJ X all i t σ (fun t σ => vO X all Q n (ls.set i true) t σ) := fun c hc he hcb => by
                subst hc
                refine OneJ.wk (Wk.cons hb (Wk.refl t)) (OneJ.guard ho hg hd' hN ?_)
                rw [look_cons, if_pos rfl]
                exact ⟨fun e => absurd e hcb, fun _ => he⟩
              cases b0 with
              | true => cases b with
                | true => exact yes true rfl (hp.1 rfl) rfl
                | false => exact no false rfl (hp.2 rfl) (by simp)
              | false => cases b with
                | true => exact no true rfl (hp.1 rfl) (by simp)
                | false => exact yes false rfl (hp.2 rfl) rfl
            · next hb =>
              refine OneJ.guard ho hg hd' hN ?_
              rw [hb]
              exact hp
            · exact hp.elim
          · exact hp.elim

def falses : Nat → List Bool
  | 0 => []
  | n + 1 => false :: falses n
theorem falses_eq : ∀ n, falses n = List.replicate n false
  | 0 => rfl
  | n + 1 => by rw [falses, falses_eq n, List.replicate_succ]
/-- **A region that draws its order: every order is gone through.** -/
theorem RegP.orders {id : Nat} {ops : Array Oper} {t : T} {σ : Sg} {Q : T → Sg → Prop} (hm : X.P.follows .mixedOrders = true) (h : vO X ops Q ops.size (falses ops.size) t σ) : RegP X id ops t σ Q := by
  intro Q' hQ γ H a w s
  refine wpIn_region_any hm ?_
  have s' : St X γ H t σ a { w with drawn := w.drawn + 1 } := ⟨s.lam, s.round, s.defers, s.size, s.pinned, s.tmp, s.mem.drew⟩
  have := vO_sound (Q := Q) (Q' := Post X Q') (fun γ H t σ a w s q => ⟨γ, H, t, σ, s, hQ t σ q⟩) ops.size (falses ops.size) t σ h γ H a _ s'
  rw [falses_eq] at this
  simpa using this
def trues : Nat → List Bool → List Bool
  | 0, l => l
  | n + 1, l => true :: trues n l
theorem trues_eq : ∀ n l, trues n l = List.replicate n true ++ l
  | 0, l => rfl
  | n + 1, l => by rw [trues, trues_eq n, List.replicate_succ]; rfl
/-- **A region that draws its order: quiet operations ahead in any order, the rest by all orders.** -/
theorem RegP.mix {id : Nat} {ops : Array Oper} {t : T} {σ : Sg} {Q : T → Sg → Prop} (m : Nat) (hm : X.P.follows .mixedOrders = true) (hc : (calmB2 ops m && Nat.ble m ops.size) = true)
    (h : vB X ops σ (fun t σ => vO X ops Q (ops.size - m) (trues m (falses (ops.size - m))) t σ) (ops.toList.take m) t []) : RegP X id ops t σ Q := by
  intro Q' hQ
  simp only [Bool.and_eq_true, Nat.ble_eq] at hc
  refine WJ.calmG m hm (calmB2_R hc.1) hc.2 (fun t σ h3 γ H a w lst hst hls hlst => ?_) (vB_sound _ _ _ h)
  have e : lst = (trues m (falses (ops.size - m))).toArray := by
    rw [trues_eq, falses_eq]
    apply Array.ext
    · simp [hls]; omega
    · intro j h1 h2
      have hj := hlst j (by omega)
      rw [Array.getD_eq_getD_getElem?, Array.getElem?_eq_getElem h1, Option.getD_some] at hj
      rw [hj, List.getElem_toArray, List.getElem_append]
      split
      · next h3 => simp at h3; simp [h3]
      · next h3 => simp at h3; simp; omega
  rw [e]
  exact vO_sound (Q := Q) (Q' := Post X Q') (fun γ H t σ a w s q => ⟨γ, H, t, σ, s, hQ t σ q⟩) (ops.size - m) _ t σ h3 γ H a w hst
end
end Go.Gv
