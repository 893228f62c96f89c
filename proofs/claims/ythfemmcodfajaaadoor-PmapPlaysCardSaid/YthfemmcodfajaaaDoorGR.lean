/- Calls of functions' values. -/
import Derived.Test.YthfemmcodfajaaaDoorGL
set_option linter.unusedVariables false
set_option linter.unusedSimpArgs false
namespace Go.Gv
open Go.RowKit
/-- What a function's value stands for. -/
inductive FnIs : AV → FuncId → List AV → Prop where
  | fnp (f : FuncId) (cs : List AV) : FnIs (.fnp f cs) f cs
  | fn (f : FuncId) (ds : List D) : FnIs (.d (.fn f ds)) f (ds.map .d)
theorem FnIs.rep {a : AV} {f : FuncId} {caps : List AV} (h : FnIs a f caps) {γ : Ids} {H : HF} {u : Value} (r : Rep γ H a u) :
    ∃ us : List Value, u = .func (.func f) #[] us.toArray ∧ us.length = caps.length ∧ ∀ (j : Nat) (a : AV) (u : Value), caps[j]? = some a → us[j]? = some u → Rep γ H a u := by
  cases h with
  | fnp f cs => cases r with
    | fnp _ _ us hl hr => exact ⟨us, rfl, hl, hr⟩
  | fn f ds => cases rep_d r with
    | fn _ _ us hl hr => exact ⟨us, rfl, by simp [hl], fun j a u h1 h2 => by
        simp only [List.getElem?_map, Option.map_eq_some_iff] at h1
        obtain ⟨x, hx, rfl⟩ := h1
        exact .d _ _ (hr j x u hx h2)⟩
theorem reps_app {γ : Ids} {H : HF} {as bs : List AV} {us vs : List Value} (hl : us.length = as.length) (h1 : ∀ (j : Nat) (a : AV) (u : Value), as[j]? = some a → us[j]? = some u → Rep γ H a u) (h2 : ∀ (j : Nat) (a : AV) (u : Value), bs[j]? = some a → vs[j]? = some u → Rep γ H a u) :
    ∀ (j : Nat) (a : AV) (u : Value), (as ++ bs)[j]? = some a → (us ++ vs)[j]? = some u → Rep γ H a u := fun j a u ha hu => by
  by_cases hj : j < as.length
  · rw [List.getElem?_append_left hj] at ha
    rw [List.getElem?_append_left (by omega)] at hu
    exact h1 j a u ha hu
  · rw [List.getElem?_append_right (by omega)] at ha
    rw [List.getElem?_append_right (by omega), hl] at hu
    exact h2 _ a u ha hu
section call
variable {X : Cx} {d : Option Nat} {ty : TypeId} {pos : String} {aft : Array Edge} {g : Option (Nat × Bool)} {t : T} {σ : Sg} {K : T → Sg → Prop}
theorem call_runT {f : FuncId} {x : Operand} {us : List Value} {args : Array Operand} {tys : Array TypeId} {w : World} {a : Act} (hx : a.eval x = .func (.func f) #[] us.toArray) (hok : callOk X.P f) :
    (execOp a.eval ⟨d, .call { callee := .value x, args := args, argTypes := tys }, ty, pos, aft, g⟩).run X.P w = .ok (.enter f (args.map a.eval ++ us.toArray)) w := by
  have := hok (args.map a.eval ++ us.toArray) w
  simpa [execOp, resolve, hx, Deferred.ofValue, invoke] using this
/-- A function's value is called; it is lent private things. -/
theorem OpJ.callT {f : FuncId} {x : Operand} {av : AV} {args : Array Operand} {tys : Array TypeId} {avs caps : List AV} {σL : Sg} {Q : AV → Sg → Prop} (hx : ge t x = some av) (hf : FnIs av f caps) (hc : Ct X.Λ X.P f (avs ++ caps) σL Q) (hok : callOk X.P f) (hN : dOk d X.N = true)
    (ha : geAll t args.toList = some avs) (hs : Wk σL σ) (k : ∀ r σ', Q r σ' → takes σ' σL t σ X.pin = true ∧ K (putT d r t) (σ' ++ rest σL σ)) :
    OpJ X ⟨d, .call { callee := .value x, args := args, argTypes := tys }, ty, pos, aft, g⟩ t σ K := by
  intro γ H a w s next Q' hk
  obtain ⟨us, hu, hul, hur⟩ := hf.rep (ge_sound s.tmp hx)
  rw [semAt_of (by simp), call_runT hu hok, Oper.uponIn_enter]
  refine ⟨fun h => by simp [Fr] at h, ?_⟩
  have hal : (args.map a.eval).toList.length = avs.length := by have := congrArg List.length (geAll_map ha); simpa using this
  have := hc X.ro γ H w ((args.map a.eval).toList ++ us) (s.lamAt σL hs) (s.mem.wk hs).self (by simp only [List.length_append, hal, hul]) (reps_app hal (by
    have := ge_list (γ := γ) (H := H) (a := a) (fun x _ v hv => ge_sound s.tmp hv) (geAll_map ha)
    simpa using this) hur)
  rw [show ((args.map a.eval).toList ++ us).toArray = args.map a.eval ++ us.toArray from Array.toList_inj.1 (by simp)] at this
  refine this.mono ?_
  rintro e w' ⟨v, r, σ', γ', H', rfl, hq, hr, hag, hpin, hm⟩
  obtain ⟨htk, hK⟩ := k r σ' hq
  have tk : ∀ j e, look j σ' = some e → (∃ cs, look j σL = some (.cells cs)) ∨ isFresh j t (rest σL σ) X.pin = true := fun j e hj => by
    have := List.all_eq_true.1 htk _ (look_mem hj)
    rcases Bool.or_eq_true_iff.1 this with h | h
    · left
      unfold lentVar at h
      split at h
      · next cs hcs => exact ⟨cs, hcs⟩
      · cases h
    · exact .inr h
  have same : ∀ j, (∀ e, look j σ' = some e → isFresh j t (rest σL σ) X.pin = true → False) → γ j = γ' j := fun j hj => by
    cases hx : look j σ' with
    | none => exact hag j hx
    | some e =>
      rcases tk j e hx with ⟨cs, h⟩ | h
      · exact hpin j cs h
      · exact (hj e hx h).elim
  refine hk γ' H' _ _ _ w' (s.step (σr := rest σL σ) hm (fun b hb => blks_in hs hb) wk_rest (fun i e hi => ?_) (fun i e hi => ⟨same i fun f _ hf => ?_, fun j hj => same j fun f _ hf => ?_⟩) (fun i hi => same i fun f _ hf => ?_) (fun i x hi j hj => same j fun f _ hf => ?_) hN hr) hK
  · cases hx : look i σ' with
    | none => rfl
    | some f =>
      rcases tk i f hx with ⟨cs, h⟩ | h
      · rw [look_rest, h] at hi; cases hi
      · exact absurd rfl (fresh_s h hi).1
  · exact (fresh_s hf hi).1 rfl
  · have := (fresh_s hf hi).2; rw [hj] at this; cases this
  · exact fresh_p hf hi rfl
  · have := fresh_t hf hi; rw [hj] at this; cases this
/-- A function's value is called, that is lent nothing. -/
theorem OpJ.callTV {f : FuncId} {x : Operand} {av : AV} {args : Array Operand} {tys : Array TypeId} {avs caps : List AV} {r : AV} (hx : ge t x = some av) (hf : FnIs av f caps) (hc : Ct X.Λ X.P f (avs ++ caps) [] (fun q _ => q = r)) (hok : callOk X.P f)
    (ha : geAll t args.toList = some avs) (ho : r.open = true) (hN : dOk d X.N = true) (k : K (putT d r t) σ) : OpJ X ⟨d, .call { callee := .value x, args := args, argTypes := tys }, ty, pos, aft, g⟩ t σ K := by
  intro γ H a w s next Q' hk
  obtain ⟨us, hu, hul, hur⟩ := hf.rep (ge_sound s.tmp hx)
  rw [semAt_of (by simp), call_runT hu hok, Oper.uponIn_enter]
  refine ⟨fun h => by simp [Fr] at h, ?_⟩
  have hal : (args.map a.eval).toList.length = avs.length := by have := congrArg List.length (geAll_map ha); simpa using this
  have := hc X.ro γ H w ((args.map a.eval).toList ++ us) (s.lamAt [] (Wk.nil _)) (by rw [blks_nil]; exact s.mem.refl γ) (by simp only [List.length_append, hal, hul]) (reps_app hal (by
    have := ge_list (γ := γ) (H := H) (a := a) (fun x _ v hv => ge_sound s.tmp hv) (geAll_map ha)
    simpa using this) hur)
  rw [show ((args.map a.eval).toList ++ us).toArray = args.map a.eval ++ us.toArray from Array.toList_inj.1 (by simp)] at this
  refine this.mono ?_
  rintro e w' ⟨v, r', σ', γ', H', rfl, rfl, hr, _, _, hm⟩
  rw [blks_nil] at hm
  exact hk γ H' _ _ _ w' (s.calm hm hN (hr.free ho)) k
/-- The value of a function that turns a private thing is called. -/
theorem OpJ.callRes {x : Operand} {args : Array Operand} {tys : Array TypeId} {j : Nat} {ρ : Res} {st : ρ.S} {avs : List AV} (hP : ρ.P = X.P) (hΛ : ρ.Λ = X.Λ) (hx : ge t x = some (.d (.v ρ.fv))) (hj : look j σ = some (.res ρ st)) (ha : geAll t args.toList = some avs) (ho : avs.all AV.open = true)
    (hN : dOk d X.N = true) (hf : isFresh j t (rest [(j, .res ρ st)] σ) X.pin = true) (hp : ρ.pre st avs) (k : ∀ b st', ρ.step st avs b st' → K (putT d (.d (.v (.bool b))) t) ((j, .res ρ st') :: rest [(j, .res ρ st)] σ)) :
    OpJ X ⟨d, .call { callee := .value x, args := args, argTypes := tys }, ty, pos, aft, g⟩ t σ K := by
  intro γ H a w s next Q' hk
  have hfv := rep_v (ge_sound s.tmp hx)
  have hok : ρ.ok st (γ j).o H w := s.mem.ent j _ hj
  have hal : (args.map a.eval).toList.length = avs.length := by have := congrArg List.length (geAll_map ha); simpa using this
  have hre := ge_list (γ := γ) (H := H) (a := a) (fun x _ v hv => ge_sound s.tmp hv) (geAll_map ha)
  have key := ρ.run hp H w (γ j).o (args.map a.eval).toList (by rw [hΛ]; exact s.lam.keep s.mem.keep fun b hb => (s.mem.fresh j _ hj b hb).elim (fun h => Nat.le_trans s.lam.2.1 h) (s.lam.2.2 b)) hok s.mem.hok (fun b hb => s.mem.free j _ hj b hb) hal
    (fun i b u hb hu γ2 => by
      have h1 := List.all_eq_true.1 ho b (mem_of_get hb)
      exact (hre i b u hb (by simpa using hu)).free h1)
  rw [hP] at key
  have fin : ∀ v w', (∃ b s' H' O', v = .bool b ∧ ρ.step st avs b s' ∧ ρ.ok s' O' H' w' ∧ Stp w H (γ j).o w' H' O') → next (a.put d v) w' := by
    rintro v w' ⟨b, s', H', O', rfl, hstep, hok', hS⟩
    have o : ∀ i, i ≠ j → γ i = upd γ j ⟨(γ j).b, (γ j).n, O'⟩ i := fun i hi => (upd_other γ _ hi).symm
    have one : ∀ i f, look i ([(j, Ent.res ρ s')] : Sg) = some f → i = j ∧ f = .res ρ s' := fun i f hi => by
      rw [look_cons] at hi
      split at hi
      · next e' => exact ⟨e', by simpa using hi.symm⟩
      · simp [look] at hi
    have hm : Mem w H (γ j).o (upd γ j ⟨(γ j).b, (γ j).n, O'⟩) H' [(j, .res ρ s')] w' := by
      refine ⟨hS.keep, hS.hle, hS.hnew, hS.hok, fun i f hi => ?_, fun i f hi b hb => ?_, fun i f hi b hb => ?_, fun i f l f' b hi hl hb hb' => ?_⟩
      · obtain ⟨rfl, rfl⟩ := one i f hi
        show ρ.ok s' (upd γ i _ i).o H' w'
        rw [upd_same]; exact hok'
      · obtain ⟨rfl, rfl⟩ := one i f hi
        simp only [blk, upd_same] at hb
        exact hS.free b hb
      · obtain ⟨rfl, rfl⟩ := one i f hi
        simp only [blk, upd_same] at hb
        exact (hS.own b hb).symm
      · obtain ⟨rfl, _⟩ := one i f hi; obtain ⟨rfl, _⟩ := one l f' hl; rfl
    refine hk _ H' _ _ _ w' (s.step (σr := rest [(j, .res ρ st)] σ) hm (fun b hb => ⟨j, _, hj, by rw [look_rest, look_cons, if_pos rfl]; rfl, hb⟩) wk_rest (fun i e hi => ?_) (fun i e hi => ⟨o i ?_, fun l hl => o l fun e => ?_⟩) (fun i hi => o i (fresh_p hf hi)) (fun i y hi l hl => o l fun e => ?_) hN rep_bool) (k b s' hstep)
    · rw [look_cons, if_neg (fresh_s hf hi).1]; rfl
    · exact (fresh_s hf hi).1
    · subst e; rw [(fresh_s hf hi).2] at hl; cases hl
    · subst e; rw [fresh_t hf hi] at hl; cases hl
  rcases key with ⟨f, caps, hfe, hcok, hcalls⟩ | ⟨l, f, tmps, asg, body, hfe, hy, hround⟩
  · rw [semAt_of (by simp), call_runT (us := caps.toList) (by rw [hfv, hfe]) hcok, Oper.uponIn_enter]
    refine ⟨fun h => by simp [Fr] at h, ?_⟩
    simp only [Array.toArray_toList] at hcalls ⊢
    have hcalls' := hcalls.mono (R' := fun e w'' => match e with
      | .returned v => next (a.put d v) w''
      | .panicked chain => Q' (.panic chain) a w''
      | .outgrown => LetsOut Q') fun e w' ⟨v, he, hR⟩ => by subst he; exact fin v w' hR
    cases hro : X.ro with
    | none => exact hcalls'.mono fun e w' h => by cases e <;> exact h
    | some l0 => exact CallsIn.inRound l0 (hcalls'.mono fun e w' h => by cases e <;> exact h)
  · have hrun : (execOp a.eval ⟨d, .call { callee := .value x, args := args, argTypes := tys }, ty, pos, aft, g⟩).run X.P w = .ok (.round l f tmps asg body) w := by
      have hq : a.eval x = .func (.yield l) #[] #[] := by rw [hfv, hfe]
      simp only [Array.toArray_toList] at hy
      simpa [execOp, resolve, hq, Deferred.ofValue, invoke] using hy
    rw [semAt_of (by simp), hrun, Oper.uponIn_round]
    refine ⟨fun h => by simp [Fr] at h, ?_⟩
    have hr' := hround.mono (R' := fun e w'' => match e with
      | .returned v => next (a.put d v) w''
      | .panicked chain => Q' (.panic chain) a w''
      | .outgrown => LetsOut Q') fun e w' ⟨v, he, hR⟩ => by subst he; exact fin v w' hR
    cases hro : X.ro with
    | none => exact hr'.mono fun e w' h => by cases e <;> exact h
    | some l0 => exact (show RoundIn (Fr none) 0 X.P l f tmps asg body w _ from hr'.mono fun e w' h => by cases e <;> exact h)
end call
end Go.Gv
