/- Functions: what a call comes to; how a body's judgement gives it; how a caller uses it. -/
import Derived.Test.YthfemmcodfajaaaDoorFwB
set_option linter.unusedVariables false
set_option linter.unusedSimpArgs false
namespace Go.Sv
open Go.RowKit

/-- Called with what stands for these, it returns; nothing that was there has turned; Q of the result and of what is private of it. -/
def FnC (P : Program) (f : FuncId) (avs : List AV) (Q : AV → Sg → Prop) : Prop :=
  ∀ (ro : Option Nat) (γ : Ids) (H : HF) (w : World) (vs : List Value), (∀ b o v, H b o = some v → w.cell? ⟨b, o, none⟩ = some v) → vs.length = avs.length →
    (∀ (j : Nat) (a : AV) (u : Value), avs[j]? = some a → vs[j]? = some u → Rep γ H a u) →
    CallsIn (Fr ro) 0 P f vs.toArray w fun e w' => ∃ v r σ γ' H', e = .returned v ∧ Q r σ ∧ Rep γ' H' r v ∧ Mem w H (fun _ => False) γ' H' σ w'

def numbered {α : Type} : Nat → List α → List (Nat × α)
  | _, [] => []
  | k, a :: r => (k, a) :: numbered (k + 1) r

theorem look_numbered {α : Type} (l : List α) : ∀ (k i : Nat) (a : α), look i (numbered k l) = some a → ∃ j, i = k + j ∧ l[j]? = some a := by
  induction l with
  | nil => intro k i a h; simp [numbered, look] at h
  | cons b r ih =>
    intro k i a h
    simp only [numbered, look_cons] at h
    split at h
    · exact ⟨0, by omega, by simpa using h⟩
    · obtain ⟨j, e, hj⟩ := ih (k + 1) i a h
      exact ⟨j + 1, by omega, by simpa using hj⟩

/-- What the results of the function stand for. -/
def RetIs (X : Cx) (fn : Func) (t : T) (σ : Sg) (r : AV) : Prop :=
  ∀ γ H a w, St X.w0 X.H0 X.B X.N X.D γ H t σ a w → ∃ v, (results fn a.tmps).run X.P w = .ok v w ∧ Rep γ H r v

def Ret (X : Cx) (fn : Func) (Q : AV → Sg → Prop) : Qt
  | .normal, t, σ | .ret, t, σ => ∃ r, RetIs X fn t σ r ∧ Q r σ
  | _, _, _ => False

theorem FnC.of_wj {P : Program} {f : FuncId} {fn : Func} {c : Code} {avs : List AV} {Q : AV → Sg → Prop} (N : Nat) (hf : P.funcs[f]? = some fn) (hb : fn.body = some c)
    (hN : fn.ntmps = N) (hl : avs.length ≤ N)
    (h : ∀ w H, WJ ⟨P, none, w, H, fun _ => False, N, []⟩ c (numbered 0 avs) [] (Ret ⟨P, none, w, H, fun _ => False, N, []⟩ fn Q)) : FnC P f avs Q := by
  intro ro γ H w vs hH hlen hr
  have key : CallsIn (Fr none) 0 P f vs.toArray w fun e w' => ∃ v r σ γ' H', e = .returned v ∧ Q r σ ∧ Rep γ' H' r v ∧ Mem w H (fun _ => False) γ' H' σ w' := by
    refine callsIn_of_wp hf hb trivial (wpIn_mono (h w H γ H _ w ⟨rfl, ?_, ?_, ?_⟩) ?_) rfl
    · simp [hN]; omega
    · intro i a hi
      obtain ⟨j, rfl, hj⟩ := look_numbered avs 0 i a hi
      have hjl : j < vs.length := by rw [hlen]; exact (List.getElem?_eq_some_iff.1 hj).1
      refine ⟨vs[j], ?_, hr j a _ hj (by simp [hjl])⟩
      simp only [Nat.zero_add]
      rw [Array.getElem?_append_left (by simpa using hjl)]
      simp [hjl]
    · exact ⟨Keeps.refl _ _, HLe.refl _, fun b o v h => .inl h, hH, fun i e h => by simp [look] at h, fun i e h => by simp [look] at h, fun i e j e' h => by simp [look] at h⟩
    · rintro e a w' ⟨γ', H', t, σ, s, q⟩
      have hd : a.defers = [] := by simpa using s.defers
      cases e with
      | normal =>
        obtain ⟨r, hr, hq⟩ := q
        obtain ⟨v, hv, hrep⟩ := hr γ' H' a w' s
        exact ⟨hd, v, hv, v, r, σ, γ', H', rfl, hq, hrep, s.mem⟩
      | ret =>
        obtain ⟨r, hr, hq⟩ := q
        obtain ⟨v, hv, hrep⟩ := hr γ' H' a w' s
        exact ⟨hd, v, hv, v, r, σ, γ', H', rfl, hq, hrep, s.mem⟩
      | exit id => exact q.elim
      | goto l => exact q.elim
      | panic ch => exact q.elim
      | outgrown => exact q.elim
  cases ro with
  | none => exact key
  | some l => exact CallsIn.inRound l key

theorem FnC.mono {P : Program} {f : FuncId} {avs : List AV} {Q Q' : AV → Sg → Prop} (h : FnC P f avs Q) (hq : ∀ r σ, Q r σ → Q' r σ) : FnC P f avs Q' :=
  fun ro γ H w vs h1 h2 h3 => (h ro γ H w vs h1 h2 h3).mono fun e w' ⟨v, r, σ, γ', H', he, hQ, hr, hm⟩ => ⟨v, r, σ, γ', H', he, hq r σ hQ, hr, hm⟩

theorem Keeps.trans {w0 w w' : World} {B : Nat → Prop} (h : Keeps w0 B w) (k : Keeps w (fun _ => False) w') : Keeps w0 B w' :=
  ⟨k.os.trans h.os, k.tape.trans h.tape, k.output.trans h.output, Nat.le_trans h.size k.size, fun i hi hb => (k.block i (Nat.lt_of_lt_of_le hi h.size) (fun x => x)).trans (h.block i hi hb)⟩

theorem lt_of_heap {w : World} {b : Nat} {o : Obj} (h : w.heap[b]? = some o) : b < w.heap.size := (Array.getElem?_eq_some_iff.1 h).1

theorem EntOk.lt {γ : Ids} {H : HF} {w : World} {i : Nat} {e : Ent} (h : EntOk γ H w i e) (hr : Real γ i e) : (γ i).1 < w.heap.size := by
  cases e with
  | gone => exact hr.elim
  | cells cs => obtain ⟨_, t, us, h1, _⟩ := h; exact lt_of_heap h1
  | row k n => obtain ⟨_, t, us, h1, _⟩ := h.2 hr; exact lt_of_heap h1
  | arr k xs => obtain ⟨_, t, us, h1, _⟩ := h.2.2 hr; exact lt_of_heap h1
  | obj o => exact lt_of_heap h

/-- What is private stays as it was while blocks that were there stay, and no cell of theirs is taken for good. -/
theorem EntOk.later {γ : Ids} {H H' : HF} {w w' : World} {i : Nat} {e : Ent} (h : EntOk γ H w i e) (hle : HLe H H') (hb : ∀ k, k < w.heap.size → w'.heap[k]? = w.heap[k]?)
    (hn : ∀ b o v, H' b o = some v → H b o = some v ∨ w.heap.size ≤ b) : EntOk γ H' w' i e := by
  have none_of : ∀ b o, b < w.heap.size → H b o = none → H' b o = none := fun b o hlt hN => by
    cases hx : H' b o with
    | none => rfl
    | some v =>
      rcases hn b o v hx with h | h
      · rw [hN] at h; cases h
      · omega
  cases e with
  | gone => trivial
  | cells cs =>
    obtain ⟨h0, t, us, h1, h2, h3⟩ := h
    have hlt := lt_of_heap h1
    exact ⟨fun o => none_of _ _ hlt (h0 o), t, us, (hb _ hlt).trans h1, h2, fun j a u x y => (h3 j a u x y).mono hle⟩
  | row k n =>
    refine ⟨h.1, fun hr => ?_⟩
    obtain ⟨h0, t, us, h1, h2⟩ := h.2 hr
    have hlt := lt_of_heap h1
    exact ⟨fun o ho => none_of _ _ hlt (h0 o ho), t, us, (hb _ hlt).trans h1, h2⟩
  | arr k xs =>
    refine ⟨h.1, h.2.1, fun hr => ?_⟩
    obtain ⟨h0, t, us, h1, h2, h3⟩ := h.2.2 hr
    have hlt := lt_of_heap h1
    exact ⟨fun o => none_of _ _ hlt (h0 o), t, us, (hb _ hlt).trans h1, h2, fun j l cs a u x y z => (h3 j l cs a u x y z).mono hle⟩
  | obj o => exact (hb _ (lt_of_heap h)).trans h

theorem Mem.call {w0 w w' : World} {H0 H H' : HF} {B : Nat → Prop} {γ γ' : Ids} {σ σ' : Sg} (h : Mem w0 H0 B γ H σ w) (k : Mem w H (fun _ => False) γ' H' σ' w') : Mem w0 H0 B γ H' σ w' :=
  ⟨h.keep.trans k.keep, h.hle.trans k.hle, fun b o v x => by
    rcases k.hnew b o v x with y | y
    · exact h.hnew b o v y
    · exact .inr (Nat.le_trans h.keep.size y), k.hok,
   fun i e hi => (h.ent i e hi).later k.hle (fun j hj => k.keep.block j hj (fun x => x)) k.hnew, h.fresh, h.apart⟩

theorem ge_list {γ : Ids} {H : HF} {t : T} {a : Act} (ht : TmpOk γ H t a.tmps) : ∀ {l : List Operand} {avs : List AV}, l.map (ge t) = avs.map some →
    ∀ (j : Nat) (x : AV) (u : Value), avs[j]? = some x → (l.map a.eval)[j]? = some u → Rep γ H x u
  | [], avs, h, j, x, u, h1, h2 => by simp at h2
  | o :: l, [], h, j, x, u, h1, h2 => by simp at h1
  | o :: l, y :: avs, h, j, x, u, h1, h2 => by
    simp only [List.map_cons, List.cons.injEq] at h
    cases j with
    | zero => simp at h1 h2; subst h1; subst h2; exact ge_sound ht h.1
    | succ j => exact ge_list ht h.2 j x u (by simpa using h1) (by simpa using h2)

theorem ge_list' {γ : Ids} {H : HF} {t : T} {a : Act} : ∀ {l : List Operand} {avs : List AV} (_ : ∀ x, x ∈ l → ∀ v, ge t x = some v → Rep γ H v (a.eval x)), l.map (ge t) = avs.map some →
    ∀ (j : Nat) (x : AV) (u : Value), avs[j]? = some x → (l.map a.eval)[j]? = some u → Rep γ H x u
  | [], avs, _, h, j, x, u, h1, h2 => by simp at h2
  | o :: l, [], _, h, j, x, u, h1, h2 => by simp at h1
  | o :: l, y :: avs, ht, h, j, x, u, h1, h2 => by
    simp only [List.map_cons, List.cons.injEq] at h
    cases j with
    | zero => simp at h1 h2; subst h1; subst h2; exact ht o (by simp) _ h.1
    | succ j => exact ge_list' (fun x hx => ht x (by simp [hx])) h.2 j x u (by simpa using h1) (by simpa using h2)

/-- All of some operands. -/
def geAll (t : T) : List Operand → Option (List AV)
  | [] => some []
  | o :: l => match ge t o with
    | some a => match geAll t l with
      | some r => some (a :: r)
      | none => none
    | none => none
theorem geAll_map {t : T} : ∀ {l : List Operand} {avs : List AV}, geAll t l = some avs → l.map (ge t) = avs.map some
  | [], avs, h => by simp [geAll] at h; subst h; rfl
  | o :: l, avs, h => by
    simp only [geAll] at h
    split at h
    · next a ha =>
      split at h
      · next r hr => simp only [Option.some.injEq] at h; subst h; simp [ha, geAll_map hr]
      · cases h
    · cases h

def callOk (P : Program) (f : FuncId) : Prop := ∀ (args : Array Value) (w : World), (callFunc f args).run P w = .ok (.enter f args) w

section call
variable {X : Cx} {d : Option Nat} {ty : TypeId} {pos : String} {aft : Array Edge} {g : Option (Nat × Bool)} {t : T} {σ : Sg} {K : T → Sg → Prop}

/-- A quiet operation in an order of its own. -/
theorem OpJ.quiet {o : Oper} {V : AV} (h : QJ X o t σ V) (hN : dOk o.dst X.N = true) (ho : V.open = true ∨ True) (k : K (putT o.dst V t) σ) : OpJ X o t σ K := by
  intro γ H a w s next Q' hk
  refine h γ H a w (so_of s o) s.mem next Q' fun v γ' σ' H' w' hm hr => ?_
  refine hk γ H' _ σ _ w' ⟨?_, ?_, (s.tmp.mono hm.hle).put s.size hN hr, s.mem.call hm⟩ k
  · rw [put_defers]; exact s.defers
  · rw [put_size]; exact s.size

theorem LJ.q {all : Array Oper} {kk : Nat} {o : Oper} {rest : List Oper} {Q : T → Sg → Prop} {V : AV} (hg : o.guard = none) (h : QJ X o t σ V) (hN : dOk o.dst X.N = true)
    (k : LJ X all (kk + 1) rest (putT o.dst V t) σ Q) : LJ X all kk (o :: rest) t σ Q := LJ.op hg (OpJ.quiet h hN (.inr trivial) k)
theorem LJ.qy {all : Array Oper} {kk : Nat} {o : Oper} {rest : List Oper} {Q : T → Sg → Prop} {V : AV} {j : Nat} {b : Bool} {d : Nat} (hg : o.guard = some (j, b)) (hd : ((all[j]?).bind (·.dst)) = some d) (hb : look d t = some (.d (.v (.bool b))))
    (h : QJ X o t σ V) (hN : dOk o.dst X.N = true) (k : LJ X all (kk + 1) rest (putT o.dst V t) σ Q) : LJ X all kk (o :: rest) t σ Q := LJ.yes hg hd hb (OpJ.quiet h hN (.inr trivial) k)

/-- A call of a function whose result names nothing private. -/
theorem O.call {f : FuncId} {args : Array Operand} {tys : Array TypeId} {avs : List AV} {r : AV} (hc : FnC X.P f avs (fun q _ => q = r)) (hok : callOk X.P f)
    (ha : geAll t args.toList = some avs) (ho : r.open = true) : QJ X ⟨d, .call { callee := .value (.func f), args := args, argTypes := tys }, ty, pos, aft, g⟩ t σ r := by
  intro γ H a w so sm next Q' hk
  have hx : (execOp a.eval ⟨d, .call { callee := .value (.func f), args := args, argTypes := tys }, ty, pos, aft, g⟩).run X.P w = .ok (.enter f (args.map a.eval)) w := by
    have := hok (args.map a.eval) w
    simpa [execOp, resolve, Act.eval, Deferred.ofValue, invoke] using this
  rw [semAt_of (by simp), hx, Oper.uponIn_enter]
  refine ⟨fun h => by simp [Fr] at h, ?_⟩
  have hso : ∀ x, x ∈ args.toList → ∀ v, ge t x = some v → Rep γ H v (a.eval x) := fun x hx => so x (by simp [Op.operands, Call.operands] at hx ⊢; exact .inr hx)
  have := hc X.ro γ H w (args.map a.eval).toList sm.hok (by have := congrArg List.length (geAll_map ha); simpa using this) (by
    have := ge_list' hso (geAll_map ha)
    simpa using this)
  simp only [Array.toArray_toList] at this
  refine (this.mono ?_)
  rintro e w' ⟨v, r', σ', γ', H', rfl, rfl, hr, hm⟩
  exact hk v γ' σ' H' w' hm (hr.free ho)

/-- A call, when all that is known of the result is Q. -/
theorem E.call {f : FuncId} {args : Array Operand} {tys : Array TypeId} {avs : List AV} {Q : AV → Sg → Prop} (hc : FnC X.P f avs Q) (hok : callOk X.P f) (hN : dOk d X.N = true)
    (ha : geAll t args.toList = some avs) (ho : ∀ r σ', Q r σ' → r.open = true) (k : ∀ r σ', Q r σ' → K (putT d r t) σ) :
    OpJ X ⟨d, .call { callee := .value (.func f), args := args, argTypes := tys }, ty, pos, aft, g⟩ t σ K := by
  intro γ H a w s next Q' hk
  have hx : (execOp a.eval ⟨d, .call { callee := .value (.func f), args := args, argTypes := tys }, ty, pos, aft, g⟩).run X.P w = .ok (.enter f (args.map a.eval)) w := by
    have := hok (args.map a.eval) w
    simpa [execOp, resolve, Act.eval, Deferred.ofValue, invoke] using this
  rw [semAt_of (by simp), hx, Oper.uponIn_enter]
  refine ⟨fun h => by simp [Fr] at h, ?_⟩
  have := hc X.ro γ H w (args.map a.eval).toList s.mem.hok (by have := congrArg List.length (geAll_map ha); simpa using this) (by
    have := ge_list s.tmp (geAll_map ha)
    simpa using this)
  simp only [Array.toArray_toList] at this
  refine (this.mono ?_)
  rintro e w' ⟨v, r, σ', γ', H', rfl, hq, hr, hm⟩
  refine hk γ H' _ σ _ w' ⟨?_, ?_, (s.tmp.mono hm.hle).put s.size hN (hr.free (ho r σ' hq)), s.mem.call hm⟩ (k r σ' hq)
  · rw [put_defers]; exact s.defers
  · rw [put_size]; exact s.size
end call

/-! ### Results -/
theorem ret_tmp {X : Cx} {fn : Func} {t : T} {σ : Sg} {i : Nat} {r : AV} (hr : fn.results = #[.tmp i]) (hi : look i t = some r) : RetIs X fn t σ r := by
  intro γ H a w s
  obtain ⟨u, hu, h⟩ := s.tmp i r hi
  refine ⟨u, ?_, h⟩
  simp [results, hr, Array.getD_eq_getD_getElem?, hu]

end Go.Sv
