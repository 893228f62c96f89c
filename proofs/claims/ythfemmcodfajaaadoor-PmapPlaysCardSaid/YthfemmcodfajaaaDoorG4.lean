/- A contract out of a body; calls. -/
import Derived.Test.YthfemmcodfajaaaDoorG3
set_option linter.unusedVariables false
set_option linter.unusedSimpArgs false
namespace Go.Gv
open Go.RowKit

/-! ### A contract out of a body -/
theorem leaves_marks {X : Cx} {fn : Func} {R : Ending → World → Prop} {t : T} {σ : Sg} {tmps : Array Value} (hd : X.ro = X.ro) : ∀ (ms : List Nat) (γ : Ids) (H : HF) (w : World),
    (∀ w', (St X γ H t σ { tmps := tmps, defers := [] } w' → ∃ v, (results fn tmps).run X.P w' = .ok v w' ∧ R (.returned v) w')) →
    (∀ ds, St X γ H t σ { tmps := tmps, defers := ds } w → St X γ H t σ { tmps := tmps, defers := [] } w) → Marked X.w0 γ σ w ms → St X γ H t σ { tmps := tmps, defers := [] } w →
    LeavesInM (Fr none) 0 X.P fn tmps R (ms.map fun b => { target := .collected b, args := #[] }) .returning w
  | [], γ, H, w, h, _, _, s => h w s
  | b :: ms, γ, H, w, h, h1, m, s => by
    obtain ⟨hb1, hb2, hb3⟩ := m.2 b (by simp)
    have hmem := putObj_mem (o := .deferred none) s.mem hb1 hb2 hb3
    have m' : Marked X.w0 γ σ (w.putObj b (.deferred none)) ms := ⟨(List.nodup_cons.1 m.1).2, fun c hc => by
      obtain ⟨h2, h3, h4⟩ := m.2 c (by simp [hc])
      have hne : c ≠ b := fun e => (List.nodup_cons.1 m.1).1 (e ▸ hc)
      exact ⟨(World.putObj_heap_other hne).trans h2, h3, h4⟩⟩
    have s' : St X γ H t σ { tmps := tmps, defers := [] } (w.putObj b (.deferred none)) := ⟨s.lam, s.round, ⟨[], rfl, List.nodup_nil, fun b h => by simp at h⟩, s.size, s.pinned, s.tmp, hmem⟩
    refine ⟨by simp, .inl ⟨b, _, rfl, run_takeDeferred hb1, leaves_marks hd ms γ H _ h (fun ds _ => s') m' s'⟩⟩

theorem Ct.of_wj {Λ : Amb} {P : Program} {f : FuncId} {fn : Func} {c : Code} {avs : List AV} {σ : Sg} {Q : AV → Sg → Prop} (N : Nat) (hf : P.funcs[f]? = some fn) (hb : fn.body = some c)
    (hN : fn.ntmps = N) (hl : avs.length ≤ N)
    (h : ∀ w H B g0, WJ ⟨P, Λ, none, w, H, B, N, pinsOf σ, g0⟩ c (numbered 0 avs) σ (Ret ⟨P, Λ, none, w, H, B, N, pinsOf σ, g0⟩ fn Q)) : Ct Λ P f avs σ Q := by
  intro ro γ H w vs hΛ hm hlen hr
  have key : CallsIn (Fr none) 0 P f vs.toArray w fun e w' => ∃ v r σ' γ' H', e = .returned v ∧ Q r σ' ∧ Rep γ' H' r v ∧ (∀ i, look i σ' = none → γ i = γ' i) ∧ (∀ i cs, look i σ = some (.cells cs) → γ i = γ' i) ∧ Mem w H (blks γ σ) γ' H' σ' w' := by
    let X : Cx := ⟨P, Λ, none, w, H, blks γ σ, N, pinsOf σ, γ⟩
    have s0 : St X γ H (numbered 0 avs) σ { tmps := vs.toArray ++ Array.replicate (fn.ntmps - vs.toArray.size) undef, defers := [] } w := by
      refine ⟨hΛ, (fun l h => by cases h), ⟨[], rfl, List.nodup_nil, fun b h => by simp at h⟩, ?_, fun i _ => rfl, ?_, hm⟩
      · simp [hN, X]; omega
      · intro i a hi
        obtain ⟨j, rfl, hj⟩ := look_numbered avs 0 i a hi
        have hjl : j < vs.length := by rw [hlen]; exact (List.getElem?_eq_some_iff.1 hj).1
        refine ⟨vs[j], ?_, hr j a _ hj (by simp [hjl])⟩
        simp only [Nat.zero_add]
        rw [Array.getElem?_append_left (by simpa using hjl)]
        simp [hjl]
    refine callsIn_of_wp_marks hf hb trivial (wpIn_mono (h w H (blks γ σ) γ γ H _ w s0) ?_) rfl
    rintro e a w' ⟨γe, He, t, σe, s, q⟩
    have fin : (∃ r σ', RetIs X fn t σe r σ' ∧ closedB X.pin r σ' ∧ Q r σ') → LeavesInM (Fr none) 0 P fn a.tmps (fun e w' => ∃ v r σ' γ' H', e = .returned v ∧ Q r σ' ∧ Rep γ' H' r v ∧ (∀ i, look i σ' = none → γ i = γ' i) ∧ (∀ i cs, look i σ = some (.cells cs) → γ i = γ' i) ∧ Mem w H (blks γ σ) γ' H' σ' w') a.defers .returning w' := by
      rintro ⟨r, σ', hri, hcl, hq⟩
      obtain ⟨ms, hd, m⟩ := s.defers
      rw [hd]
      have s' : St X γe He t σe { tmps := a.tmps, defers := [] } w' := ⟨s.lam, s.round, ⟨[], rfl, List.nodup_nil, fun b h => by simp at h⟩, s.size, s.pinned, s.tmp, s.mem⟩
      refine leaves_marks (X := X) (fn := fn) (t := t) (σ := σe) rfl ms γe He w' (fun w'' s'' => ?_) (fun _ _ => s') m s'
      obtain ⟨v, γ2, H2, hv, s2, rep⟩ := hri γe He _ w'' s''
      have hpin : ∀ i, i ∈ pinsOf σ → γ2 i = γ i := fun i hi => s2.pinned i hi
      let γ' : Ids := fun i => if (look i σ').isSome = true then γ2 i else γ i
      have ag : ∀ j, ((look j σ').isSome = true ∨ j ∈ pinsOf σ) → γ2 j = γ' j := fun j hj => by
        show γ2 j = if (look j σ').isSome = true then γ2 j else γ j
        split
        · rfl
        · next hn => exact hpin j (hj.resolve_left hn)
      have dom : ∀ i e, look i σ' = some e → γ2 i = γ' i := fun i e hi => ag i (.inl (by simp [hi]))
      refine ⟨v, hv, v, r, σ', γ', H2, rfl, hq, rep.agree fun j hj => ag j (hcl.1 j hj), fun i hi => ?_, fun i cs hi => ?_, ?_⟩
      · show γ i = if (look i σ').isSome = true then γ2 i else γ i
        rw [hi]; rfl
      · exact (hpin i (mem_pins hi)).symm.trans (ag i (.inr (mem_pins hi)))
      · have m2 := s2.mem
        exact ⟨m2.keep, m2.hle, m2.hnew, m2.hok, fun i e hi => (m2.ent i e hi).agree (dom i e hi) fun j hj => ag j (hcl.2 i e hi j hj), fun i e hi b hbk => m2.free i e hi b (by rw [blk_congr (dom i e hi)]; exact hbk),
          fun i e hi b hbk => m2.fresh i e hi b (by rw [blk_congr (dom i e hi)]; exact hbk), fun i e j e' b hi hj hb hb' => m2.apart i e j e' b hi hj (by rw [blk_congr (dom i e hi)]; exact hb) (by rw [blk_congr (dom j e' hj)]; exact hb')⟩
    cases e with
    | normal => exact fin q
    | ret => exact fin q
    | exit id => exact q.elim
    | goto l => exact q.elim
    | panic ch => exact q.elim
    | outgrown => exact q.elim
  cases ro with
  | none => exact key
  | some l => exact CallsIn.inRound l key

/-! ### Calls -/
/-- All of some operands. -/
def geAll (t : T) : List Operand → Option (List AV)
  | [] => some []
  | o :: l => match ge t o with
    | some a => match geAll t l with
      | some r => some (a :: r)
      | none => none
    | none => none
theorem geAll_map {t : T} : ∀ {l : List Operand} {avs : List AV}, geAll t l = some avs → l.map (ge t) = avs.map some
  | [], avs, h => by simp [geAll] at h; subst h; rfl
  | o :: l, avs, h => by
    simp only [geAll] at h
    split at h
    · next a ha =>
      split at h
      · next r hr => simp only [Option.some.injEq] at h; subst h; simp [ha, geAll_map hr]
      · cases h
    · cases h
theorem ge_list {γ : Ids} {H : HF} {t : T} {a : Act} : ∀ {l : List Operand} {avs : List AV} (_ : ∀ x, x ∈ l → ∀ v, ge t x = some v → Rep γ H v (a.eval x)), l.map (ge t) = avs.map some →
    ∀ (j : Nat) (x : AV) (u : Value), avs[j]? = some x → (l.map a.eval)[j]? = some u → Rep γ H x u
  | [], avs, _, h, j, x, u, h1, h2 => by simp at h2
  | o :: l, [], _, h, j, x, u, h1, h2 => by simp at h1
  | o :: l, y :: avs, ht, h, j, x, u, h1, h2 => by
    simp only [List.map_cons, List.cons.injEq] at h
    cases j with
    | zero => simp at h1 h2; subst h1; subst h2; exact ht o (by simp) _ h.1
    | succ j => exact ge_list (fun x hx => ht x (by simp [hx])) h.2 j x u (by simpa using h1) (by simpa using h2)

/-- The name i is used nowhere. -/
def isFresh (i : Nat) (t : T) (σ : Sg) (pin : List Nat) : Bool := t.all (fun p => !has2 i p.2) && σ.all (fun p => !Nat.beq i p.1 && !entHas i p.2) && pin.all fun j => !Nat.beq i j
theorem fresh_t {i j : Nat} {t : T} {σ : Sg} {pin : List Nat} {a : AV} (h : isFresh i t σ pin = true) (hj : look j t = some a) : has2 i a = false := by
  simp only [isFresh, Bool.and_eq_true, List.all_eq_true] at h
  have := h.1.1 _ (look_mem hj)
  simpa using this
theorem fresh_s {i j : Nat} {t : T} {σ : Sg} {pin : List Nat} {e : Ent} (h : isFresh i t σ pin = true) (hj : look j σ = some e) : j ≠ i ∧ entHas i e = false := by
  simp only [isFresh, Bool.and_eq_true, List.all_eq_true] at h
  have := h.1.2 _ (look_mem hj)
  simp only [Bool.not_eq_true', Bool.and_eq_true] at this
  exact ⟨fun e => by subst e; simp at this, this.2⟩
theorem fresh_p {i : Nat} {t : T} {σ : Sg} {pin : List Nat} (h : isFresh i t σ pin = true) {j : Nat} (hj : j ∈ pin) : j ≠ i := by
  simp only [isFresh, Bool.and_eq_true, List.all_eq_true] at h
  have := h.2 j hj
  intro e; subst e; simp at this

universe u in
def isSomeB {α : Type u} : Option α → Bool
  | some _ => true
  | none => false
/-- What is not lent. -/
def rest (σL σ : Sg) : Sg := σ.filter fun p => !isSomeB (look p.1 σL)
theorem look_rest {σL σ : Sg} {i : Nat} : look i (rest σL σ) = if isSomeB (look i σL) = true then none else look i σ := by
  rw [rest, look_filterN (q := fun i => !isSomeB (look i σL))]
  by_cases h : isSomeB (look i σL) = true <;> simp [h]
/-- Is it a lent variable? -/
def lentVar (σL : Sg) (i : Nat) : Bool := match look i σL with
  | some (.cells _) => true
  | _ => false
def takes (σ' σL : Sg) (t : T) (σ : Sg) (pin : List Nat) : Bool := σ'.all fun p => lentVar σL p.1 || isFresh p.1 t (rest σL σ) pin

section call
variable {X : Cx} {d : Option Nat} {ty : TypeId} {pos : String} {aft : Array Edge} {g : Option (Nat × Bool)} {t : T} {σ : Sg} {K : T → Sg → Prop}

theorem call_run {f : FuncId} {args : Array Operand} {tys : Array TypeId} {w : World} {a : Act} (hok : callOk X.P f) :
    (execOp a.eval ⟨d, .call { callee := .value (.func f), args := args, argTypes := tys }, ty, pos, aft, g⟩).run X.P w = .ok (.enter f (args.map a.eval)) w := by
  have := hok (args.map a.eval) w
  simpa [execOp, resolve, Act.eval, Deferred.ofValue, invoke] using this

theorem blks_in {γ : Ids} {σL σ : Sg} (hs : Wk σL σ) {b : Nat} (h : blks γ σL b) : ∃ i e, look i σ = some e ∧ look i (rest σL σ) = none ∧ blk γ i e b := by
  obtain ⟨i, e, hi, hb⟩ := h
  exact ⟨i, e, hs i e hi, by rw [look_rest, hi]; rfl, hb⟩
theorem wk_rest {σL σ : Sg} : Wk (rest σL σ) σ := fun i e h => by
  rw [look_rest] at h
  split at h
  · cases h
  · exact h

/-- What is known of Λ where private things are lent. -/
theorem St.lamAt {γ : Ids} {H : HF} {a : Act} {w : World} (s : St X γ H t σ a w) (σL : Sg) (hs : Wk σL σ) : Lam X.Λ w (blks γ σL) :=
  s.lam.keep s.mem.keep fun b ⟨i, e, hi, hb⟩ => (s.mem.fresh i e (hs i e hi) b hb).elim (fun h => Nat.le_trans s.lam.2.1 h) (s.lam.2.2 b)

/-- **A call that is lent private things.** -/
theorem OpJ.call {f : FuncId} {args : Array Operand} {tys : Array TypeId} {avs : List AV} {σL : Sg} {Q : AV → Sg → Prop} (hc : Ct X.Λ X.P f avs σL Q) (hok : callOk X.P f) (hN : dOk d X.N = true)
    (ha : geAll t args.toList = some avs) (hs : Wk σL σ) (k : ∀ r σ', Q r σ' → takes σ' σL t σ X.pin = true ∧ K (putT d r t) (σ' ++ rest σL σ)) :
    OpJ X ⟨d, .call { callee := .value (.func f), args := args, argTypes := tys }, ty, pos, aft, g⟩ t σ K := by
  intro γ H a w s next Q' hk
  rw [semAt_of (by simp), call_run hok, Oper.uponIn_enter]
  refine ⟨fun h => by simp [Fr] at h, ?_⟩
  have := hc X.ro γ H w (args.map a.eval).toList (s.lamAt σL hs) (s.mem.wk hs).self (by have := congrArg List.length (geAll_map ha); simpa using this) (by
    have := ge_list (γ := γ) (H := H) (a := a) (fun x _ v hv => ge_sound s.tmp hv) (geAll_map ha)
    simpa using this)
  simp only [Array.toArray_toList] at this
  refine this.mono ?_
  rintro e w' ⟨v, r, σ', γ', H', rfl, hq, hr, hag, hpin, hm⟩
  obtain ⟨htk, hK⟩ := k r σ' hq
  have tk : ∀ j e, look j σ' = some e → (∃ cs, look j σL = some (.cells cs)) ∨ isFresh j t (rest σL σ) X.pin = true := fun j e hj => by
    have := List.all_eq_true.1 htk _ (look_mem hj)
    rcases Bool.or_eq_true_iff.1 this with h | h
    · left
      unfold lentVar at h
      split at h
      · next cs hcs => exact ⟨cs, hcs⟩
      · cases h
    · exact .inr h
  have same : ∀ j, (∀ e, look j σ' = some e → isFresh j t (rest σL σ) X.pin = true → False) → γ j = γ' j := fun j hj => by
    cases hx : look j σ' with
    | none => exact hag j hx
    | some e =>
      rcases tk j e hx with ⟨cs, h⟩ | h
      · exact hpin j cs h
      · exact (hj e hx h).elim
  refine hk γ' H' _ _ _ w' (s.step (σr := rest σL σ) hm (fun b hb => blks_in hs hb) wk_rest (fun i e hi => ?_) (fun i e hi => ⟨same i fun f _ hf => ?_, fun j hj => same j fun f _ hf => ?_⟩) (fun i hi => same i fun f _ hf => ?_) (fun i x hi j hj => same j fun f _ hf => ?_) hN hr) hK
  · cases hx : look i σ' with
    | none => rfl
    | some f =>
      rcases tk i f hx with ⟨cs, h⟩ | h
      · rw [look_rest, h] at hi; cases hi
      · exact absurd rfl (fresh_s h hi).1
  · exact (fresh_s hf hi).1 rfl
  · have := (fresh_s hf hi).2; rw [hj] at this; cases this
  · exact fresh_p hf hi rfl
  · have := fresh_t hf hi; rw [hj] at this; cases this

/-- A call whose result names nothing private. -/
theorem QJ.call {f : FuncId} {args : Array Operand} {tys : Array TypeId} {avs : List AV} {r : AV} (hc : Ct X.Λ X.P f avs [] (fun q _ => q = r)) (hok : callOk X.P f)
    (ha : geAll t args.toList = some avs) (ho : r.open = true) : QJ X ⟨d, .call { callee := .value (.func f), args := args, argTypes := tys }, ty, pos, aft, g⟩ t σ r := by
  intro γ H a w hl so sm next Q' hk
  rw [semAt_of (by simp), call_run hok, Oper.uponIn_enter]
  refine ⟨fun h => by simp [Fr] at h, ?_⟩
  have hso : ∀ x, x ∈ args.toList → ∀ v, ge t x = some v → Rep γ H v (a.eval x) := fun x hx => so x (by simp [Op.operands, Call.operands] at hx ⊢; exact .inr hx)
  have he : blks γ [] = fun _ => False := by
    funext b; simp [blks, look]
  have := hc X.ro γ H w (args.map a.eval).toList (hl.keep sm.keep (by rw [he]; exact fun b h => h.elim)) (by rw [he]; exact sm.refl γ) (by have := congrArg List.length (geAll_map ha); simpa using this) (by
    have := ge_list hso (geAll_map ha)
    simpa using this)
  simp only [Array.toArray_toList] at this
  refine this.mono ?_
  rintro e w' ⟨v, r', σ', γ', H', rfl, rfl, hr, _, _, hm⟩
  rw [he] at hm
  exact hk v γ' σ' H' w' hm (hr.free ho)
end call

/-! ### A call that is lent the whole memory to read -/
/-- Says nothing of memory. -/
def AV.scalar : AV → Bool
  | .d (.v _) => true
  | _ => false
def AV.scal : AV → Bool
  | .d (.v _) => true
  | .agg cs => cs.all AV.scalar
  | .tup cs => cs.all AV.scalar
  | _ => false
theorem Rep.scalar {γ γ' : Ids} {H H' : HF} {a : AV} {u : Value} (h : a.scalar = true) (r : Rep γ H a u) : Rep γ' H' a u := by
  cases r with
  | d x u hr => cases hr with
    | v _ hx => exact .d _ _ (.v _ hx)
    | _ => simp [AV.scalar] at h
  | _ => simp [AV.scalar] at h
theorem Rep.scal {γ γ' : Ids} {H H' : HF} {a : AV} {u : Value} (h : a.scal = true) (r : Rep γ H a u) : Rep γ' H' a u := by
  cases r with
  | d x u hr => cases hr with
    | v _ hx => exact .d _ _ (.v _ hx)
    | _ => simp [AV.scal] at h
  | agg cs us hl hr =>
    simp only [AV.scal, List.all_eq_true] at h
    exact .agg cs us hl fun j a u h1 h2 => (hr j a u h1 h2).scalar (h a (mem_of_get h1))
  | tup cs us hl hr =>
    simp only [AV.scal, List.all_eq_true] at h
    exact .tup cs us hl fun j a u h1 h2 => (hr j a u h1 h2).scalar (h a (mem_of_get h1))
  | _ => simp [AV.scal] at h
end Go.Gv
