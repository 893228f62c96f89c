/- Contracts under a fact on the world that stays; contracts out of the kit's calls; rules that reckon by themselves. -/
import Derived.Test.YthfemmcodfajaaaDoorFwM
import Derived.Lib.LaidTab
import Derived.Lib.AppendIntMem
set_option linter.unusedVariables false
set_option linter.unusedSimpArgs false
namespace Go.Sv
open Go.RowKit

/-- A fact on a world that stays while its blocks stay. -/
structure Amb where
  p : World → Prop
  st : ∀ {w w' : World}, Keeps w (fun _ => False) w' → p w → p w'

def Amb.triv : Amb := ⟨fun _ => True, fun _ _ => trivial⟩

/-- A contract in worlds of which Λ holds. -/
def FnL (Λ : Amb) (P : Program) (f : FuncId) (avs : List AV) (Q : AV → Sg → Prop) : Prop :=
  ∀ (ro : Option Nat) (γ : Ids) (H : HF) (w : World) (vs : List Value), Λ.p w → (∀ b o v, H b o = some v → w.cell? ⟨b, o, none⟩ = some v) → vs.length = avs.length →
    (∀ (j : Nat) (a : AV) (u : Value), avs[j]? = some a → vs[j]? = some u → Rep γ H a u) →
    CallsIn (Fr ro) 0 P f vs.toArray w fun e w' => ∃ v r σ γ' H', e = .returned v ∧ Q r σ ∧ Rep γ' H' r v ∧ Mem w H (fun _ => False) γ' H' σ w'

theorem FnC.toL {P : Program} {f : FuncId} {avs : List AV} {Q : AV → Sg → Prop} (Λ : Amb) (h : FnC P f avs Q) : FnL Λ P f avs Q := fun ro γ H w vs _ => h ro γ H w vs

theorem FnL.mono {Λ : Amb} {P : Program} {f : FuncId} {avs : List AV} {Q Q' : AV → Sg → Prop} (h : FnL Λ P f avs Q) (hq : ∀ r σ, Q r σ → Q' r σ) : FnL Λ P f avs Q' :=
  fun ro γ H w vs h0 h1 h2 h3 => (h ro γ H w vs h0 h1 h2 h3).mono fun e w' ⟨v, r, σ, γ', H', he, hQ, hr, hm⟩ => ⟨v, r, σ, γ', H', he, hq r σ hQ, hr, hm⟩

theorem FnL.of_wj {Λ : Amb} {P : Program} {f : FuncId} {fn : Func} {c : Code} {avs : List AV} {Q : AV → Sg → Prop} (N : Nat) (hf : P.funcs[f]? = some fn) (hb : fn.body = some c)
    (hN : fn.ntmps = N) (hl : avs.length ≤ N)
    (h : ∀ w H, Λ.p w → WJ ⟨P, none, w, H, fun _ => False, N, []⟩ c (numbered 0 avs) [] (Ret ⟨P, none, w, H, fun _ => False, N, []⟩ fn Q)) : FnL Λ P f avs Q := by
  intro ro γ H w vs hΛ hH hlen hr
  have key : CallsIn (Fr none) 0 P f vs.toArray w fun e w' => ∃ v r σ γ' H', e = .returned v ∧ Q r σ ∧ Rep γ' H' r v ∧ Mem w H (fun _ => False) γ' H' σ w' := by
    refine callsIn_of_wp hf hb trivial (wpIn_mono (h w H hΛ γ H _ w ⟨rfl, ?_, ?_, ?_⟩) ?_) rfl
    · simp [hN]; omega
    · intro i a hi
      obtain ⟨j, rfl, hj⟩ := look_numbered avs 0 i a hi
      have hjl : j < vs.length := by rw [hlen]; exact (List.getElem?_eq_some_iff.1 hj).1
      refine ⟨vs[j], ?_, hr j a _ hj (by simp [hjl])⟩
      simp only [Nat.zero_add]
      rw [Array.getElem?_append_left (by simpa using hjl)]
      simp [hjl]
    · exact ⟨Keeps.refl _ _, HLe.refl _, fun b o v h => .inl h, hH, fun i e h => by simp [look] at h, fun i e h => by simp [look] at h, fun i e j e' h => by simp [look] at h⟩
    · rintro e a w' ⟨γ', H', t, σ, s, q⟩
      have hd : a.defers = [] := by simpa using s.defers
      cases e with
      | normal =>
        obtain ⟨r, hr, hq⟩ := q
        obtain ⟨v, hv, hrep⟩ := hr γ' H' a w' s
        exact ⟨hd, v, hv, v, r, σ, γ', H', rfl, hq, hrep, s.mem⟩
      | ret =>
        obtain ⟨r, hr, hq⟩ := q
        obtain ⟨v, hv, hrep⟩ := hr γ' H' a w' s
        exact ⟨hd, v, hv, v, r, σ, γ', H', rfl, hq, hrep, s.mem⟩
      | exit id => exact q.elim
      | goto l => exact q.elim
      | panic ch => exact q.elim
      | outgrown => exact q.elim
  cases ro with
  | none => exact key
  | some l => exact CallsIn.inRound l key

theorem Keeps.of_noB {w0 w : World} {B : Nat → Prop} (h : Keeps w0 B w) (hB : ∀ b, ¬ B b) : Keeps w0 (fun _ => False) w := ⟨h.os, h.tape, h.output, h.size, fun k hk _ => h.block k hk (hB k)⟩

section call
variable {X : Cx} {d : Option Nat} {ty : TypeId} {pos : String} {aft : Array Edge} {g : Option (Nat × Bool)} {t : T} {σ : Sg} {K : T → Sg → Prop} {Λ : Amb}

theorem O.callL {f : FuncId} {args : Array Operand} {tys : Array TypeId} {avs : List AV} {r : AV} (hc : FnL Λ X.P f avs (fun q _ => q = r)) (hΛ : Λ.p X.w0) (hB : ∀ b, ¬ X.B b) (hok : callOk X.P f)
    (ha : geAll t args.toList = some avs) (ho : r.open = true) : QJ X ⟨d, .call { callee := .value (.func f), args := args, argTypes := tys }, ty, pos, aft, g⟩ t σ r := by
  intro γ H a w so sm next Q' hk
  have hx : (execOp a.eval ⟨d, .call { callee := .value (.func f), args := args, argTypes := tys }, ty, pos, aft, g⟩).run X.P w = .ok (.enter f (args.map a.eval)) w := by
    have := hok (args.map a.eval) w
    simpa [execOp, resolve, Act.eval, Deferred.ofValue, invoke] using this
  rw [semAt_of (by simp), hx, Oper.uponIn_enter]
  refine ⟨fun h => by simp [Fr] at h, ?_⟩
  have hso : ∀ x, x ∈ args.toList → ∀ v, ge t x = some v → Rep γ H v (a.eval x) := fun x hx => so x (by simp [Op.operands, Call.operands] at hx ⊢; exact .inr hx)
  have := hc X.ro γ H w (args.map a.eval).toList (Λ.st (sm.keep.of_noB hB) hΛ) sm.hok (by have := congrArg List.length (geAll_map ha); simpa using this) (by
    have := ge_list' hso (geAll_map ha)
    simpa using this)
  simp only [Array.toArray_toList] at this
  refine (this.mono ?_)
  rintro e w' ⟨v, r', σ', γ', H', rfl, rfl, hr, hm⟩
  exact hk v γ' σ' H' w' hm (hr.free ho)

theorem O.boxD {i : Nat} {e : TypeId} {x : Operand} {av : AV} (hN : dOk (some i) X.N = true) (hx : ge t x = some av) (h1 : oneAV av = true) (hD : i ∉ X.D) (hf : isFresh i t σ = true) (hc : (avCells av).any (has2 i) = false)
    (k : K ((i, .box i 0) :: t) ((i, .cells (avCells av)) :: σ)) : OpJ X ⟨some i, .box e x, ty, pos, aft, g⟩ t σ K := O.box i hN hx h1 hD hf hc k
theorem O.allocD {i : Nat} {e : TypeId} {z : Value} (hN : dOk (some i) X.N = true) (hz : ∀ w, (zeroValue e).run X.P w = .ok z w) (h1 : oneAV (ofConst z) = true) (hD : i ∉ X.D) (hf : isFresh i t σ = true)
    (hc : (avCells (ofConst z)).any (has2 i) = false) (k : K ((i, .box i 0) :: t) ((i, .cells (avCells (ofConst z))) :: σ)) : OpJ X ⟨some i, .alloc e, ty, pos, aft, g⟩ t σ K := O.alloc i hN hz h1 hD hf hc k

/-! ### Rules that reckon by themselves: each premise is closed by rfl -/
theorem O.storeC {x y : Operand} {i off : Nat} {cs cs' : List AV} {v : AV} {e : TypeId} (hx : ge t x = some (.box i off)) (hy : ge t y = some v) (hi : look i σ = some (.cells cs)) (h1 : oneAV v = true) (h2 : oneAll (avCells v) = true)
    (hs : ∀ w, (sizeOf e).run X.P w = .ok (avCells v).length w) (hl : Nat.ble (off + (avCells v).length) cs.length = true) (hc : setL cs off (avCells v) = cs') (k : K t ((i, .cells cs') :: σ)) :
    OpJ X ⟨none, .store e x y, ty, pos, aft, g⟩ t σ K := O.store hx hy hi h1 h2 hs rfl (Nat.le_of_ble_eq_true hl) hc k

theorem O.loadC {x : Operand} {i off n : Nat} {cs ds : List AV} {e : TypeId} (hx : ge t x = some (.box i off)) (hi : look i σ = some (.cells cs)) (ha : ∀ w, (isAgg e).run X.P w = .ok true w)
    (hs : ∀ w, (sizeOf e).run X.P w = .ok n w) (hl : Nat.ble (off + n) cs.length = true) (hd : (cs.drop off).take n = ds) : QJ X ⟨d, .load e x, ty, pos, aft, g⟩ t σ (.agg ds) := by
  subst hd; exact O.loadN hx hi ha hs (Nat.le_of_ble_eq_true hl)
theorem O.loadPC {x : Operand} {cs : List D} {ds : List AV} {n : Nat} {e : TypeId} (hx : ge t x = some (.d (.ptr cs))) (ha : ∀ w, (isAgg e).run X.P w = .ok true w)
    (hs : ∀ w, (sizeOf e).run X.P w = .ok n w) (hl : Nat.ble n cs.length = true) (hd : (cs.take n).map .d = ds) : QJ X ⟨d, .load e x, ty, pos, aft, g⟩ t σ (.agg ds) := by
  subst hd; exact O.loadPN hx ha hs (Nat.le_of_ble_eq_true hl)
end call

/-- The guard of the next operation is not decided yet. -/
theorem LJ.splitG {X : Cx} {t : T} {σ : Sg} {all : Array Oper} {k : Nat} {o : Oper} {rest : List Oper} {Q : T → Sg → Prop} {j d : Nat} {b0 b : Bool} (hg : o.guard = some (j, b0)) (hd : ((all[j]?).bind (·.dst)) = some d)
    (hb : look d t = some (.d (.v (.bool b)))) (ht : b = true → LJ X all k (o :: rest) ((d, .d (.v (.bool true))) :: t) σ Q) (hf : b = false → LJ X all k (o :: rest) ((d, .d (.v (.bool false))) :: t) σ Q) :
    LJ X all k (o :: rest) t σ Q := LJ.split d hb ht hf
theorem CJ.splitG {X : Cx} {t : T} {σ : Sg} {all : Array Oper} {o : Oper} {rest : List Oper} {Q : T → Sg → Prop} {j d : Nat} {b0 b : Bool} (hg : o.guard = some (j, b0)) (hd : ((all[j]?).bind (·.dst)) = some d)
    (hb : look d t = some (.d (.v (.bool b)))) (ht : b = true → CJ X all (o :: rest) ((d, .d (.v (.bool true))) :: t) σ Q) (hf : b = false → CJ X all (o :: rest) ((d, .d (.v (.bool false))) :: t) σ Q) :
    CJ X all (o :: rest) t σ Q := CJ.split d hb ht hf

/-! ### Out of the kit's calls -/
theorem FnL.of_calls {Λ : Amb} {P : Program} {f : FuncId} {avs : List AV} {V : Value} (h1 : V.oneCell' = true)
    (h : ∀ (γ : Ids) (H : HF) (w : World) (vs : List Value), Λ.p w → vs.length = avs.length → (∀ (j : Nat) (a : AV) (u : Value), avs[j]? = some a → vs[j]? = some u → Rep γ H a u) → Calls P f vs.toArray w fun e w' => e = .returned V ∧ Keeps w (fun _ => False) w') :
    FnL Λ P f avs (fun r _ => r = .d (.v V)) := by
  intro ro γ H w vs hΛ hH hlen hr
  have key : CallsIn (Fr none) 0 P f vs.toArray w fun e w' => ∃ v r σ γ' H', e = .returned v ∧ r = .d (.v V) ∧ Rep γ' H' r v ∧ Mem w H (fun _ => False) γ' H' σ w' := by
    refine callsIn_wide.2 ((h γ H w vs hΛ hlen hr).mono fun e w' ⟨he, hk⟩ => ?_)
    refine ⟨V, .d (.v V), [], γ, H, he, rfl, .d _ _ (.v V h1), hk, HLe.refl _, fun b o v h => .inl h, fun b o v h => ?_, fun i e h => by simp [look] at h, fun i e h => by simp [look] at h, fun i e j e' h => by simp [look] at h⟩
    have h1 := hH b o v h
    have hlt : b < w.heap.size := by
      unfold World.cell? at h1
      split at h1
      · next hb => exact lt_of_heap hb
      · cases h1
    simp only [World.cell?] at h1 ⊢
    rw [hk.block b hlt (fun x => x)]; exact h1
  cases ro with
  | none => exact key
  | some l => exact CallsIn.inRound l key

/-- Scalars as arguments. -/
def scalars (xs : List Value) : List AV := xs.map fun x => .d (.v x)
theorem scalars_eq {γ : Ids} {H : HF} {xs vs : List Value} (hl : vs.length = (scalars xs).length) (h : ∀ (j : Nat) (a : AV) (u : Value), (scalars xs)[j]? = some a → vs[j]? = some u → Rep γ H a u) : vs = xs := by
  apply List.ext_getElem?
  intro j
  cases hx : xs[j]? with
  | none => simp [scalars] at hl hx; rw [List.getElem?_eq_none]; omega
  | some x =>
    have hlt : j < vs.length := by rw [hl]; simp [scalars]; exact (List.getElem?_eq_some_iff.1 hx).1
    have := rep_v (h j (.d (.v x)) vs[j] (by simp [scalars, hx]) (by simp [hlt]))
    simp [hlt, this]
theorem FnL.of_calls_scalars {Λ : Amb} {P : Program} {f : FuncId} (xs : List Value) {V : Value} (h1 : V.oneCell' = true)
    (h : ∀ (w : World), Λ.p w → Calls P f xs.toArray w fun e w' => e = .returned V ∧ Keeps w (fun _ => False) w') : FnL Λ P f (scalars xs) (fun r _ => r = .d (.v V)) :=
  FnL.of_calls h1 fun γ H w vs hΛ hl hr => by rw [scalars_eq hl hr]; exact h w hΛ

theorem keeps_below {w w' : World} (h : Below w.heap.size w w') : Keeps w (fun _ => False) w' := ⟨h.os, h.tape, h.output, h.size, fun k hk _ => h.block k hk⟩

/-- A table of the library's lies there. -/
def tabAmb (P : Program) (name : String) (k : IntKind) (zs : List Int) : Amb := ⟨fun w => Lib.TabIs P w name k zs, fun {w w'} hk h => by
  obtain ⟨g, hg, hm⟩ := Option.bind_eq_some_iff.1 (show World.var? P w name = some _ from h)
  have hlt : g < w.heap.size := by
    cases hx : w.heap[g]? with
    | none => rw [hx] at hm; cases hm
    | some o => exact lt_of_heap hx
  show World.var? P w' name = some _
  unfold World.var?
  rw [hg]
  simp only [Option.bind_some]
  rw [hk.block g hlt (fun x => x)]; exact hm⟩
end Go.Sv
