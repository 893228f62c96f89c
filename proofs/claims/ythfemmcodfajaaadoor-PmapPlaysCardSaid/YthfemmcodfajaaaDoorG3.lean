/- Judgements on code, regions, operations; contracts of functions. -/
import Derived.Test.YthfemmcodfajaaaDoorG2
set_option linter.unusedVariables false
set_option linter.unusedSimpArgs false
namespace Go.Gv
open Go.RowKit

abbrev Qt := Exit → T → Sg → Prop

def Post (X : Cx) (Q : Qt) (e : Exit) (a : Act) (w : World) : Prop := ∃ γ H t σ, St X γ H t σ a w ∧ Q e t σ

def WJ (X : Cx) (c : Code) (t : T) (σ : Sg) (Q : Qt) : Prop := ∀ γ H a w, St X γ H t σ a w → c.wpIn (Fr X.ro) 0 X.P (Post X Q) a w

/-- The operations of a region, in their order, from the k-th on. -/
def LJ (X : Cx) (all : Array Oper) (k : Nat) (rest : List Oper) (t : T) (σ : Sg) (Q : T → Sg → Prop) : Prop :=
  (∀ j, all[k + j]? = rest[j]?) → ∀ Q' : Exit → Act → World → Prop, (∀ γ H t σ a w, St X γ H t σ a w → Q t σ → Q' .normal a w) →
    ∀ γ H a w, St X γ H t σ a w → wpOpsIn (Fr X.ro) 0 X.P all Q' (List.range' k rest.length) a w

/-- One operation. -/
def OpJ (X : Cx) (o : Oper) (t : T) (σ : Sg) (K : T → Sg → Prop) : Prop :=
  ∀ γ H a w, St X γ H t σ a w →
    ∀ (next : Act → World → Prop) (Q' : Exit → Act → World → Prop), (∀ γ H t σ a' w', St X γ H t σ a' w' → K t σ → next a' w') →
      o.uponIn (Fr X.ro) 0 X.P a next Q' ((o.semAt X.ro a.eval).run X.P w)

/-- Another view of a state. -/
def SJ (X : Cx) (t : T) (σ : Sg) (t' : T) (σ' : Sg) : Prop := ∀ γ H a w, St X γ H t σ a w → ∃ γ' H', St X γ' H' t' σ' a w

section
variable {X : Cx} {t t' : T} {σ σ' : Sg}
theorem WJ.wk {c : Code} {Q : Qt} (ht : Wk t' t) (hs : Wk σ' σ) (h : WJ X c t' σ' Q) : WJ X c t σ Q := fun γ H a w s => h γ H a w (s.wk ht hs)
theorem WJ.mono {c : Code} {Q Q' : Qt} (h : WJ X c t σ Q) (hq : ∀ e t σ, Q e t σ → Q' e t σ) : WJ X c t σ Q' :=
  fun γ H a w s => wpIn_mono (h γ H a w s) fun e a w ⟨γ, H, t, σ, s, q⟩ => ⟨γ, H, t, σ, s, hq e t σ q⟩
theorem LJ.mono {all : Array Oper} {k : Nat} {rest : List Oper} {Q Q' : T → Sg → Prop} (h : LJ X all k rest t σ Q) (hq : ∀ t σ, Q t σ → Q' t σ) : LJ X all k rest t σ Q' :=
  fun ha R hR => h ha R fun γ H t σ a w s q => hR γ H t σ a w s (hq t σ q)
theorem WJ.shift {c : Code} {Q : Qt} (h : SJ X t σ t' σ') (k : WJ X c t' σ' Q) : WJ X c t σ Q := fun γ H a w s => let ⟨γ', H', s'⟩ := h γ H a w s; k γ' H' a w s'
theorem LJ.shift {all : Array Oper} {kk : Nat} {rest : List Oper} {Q : T → Sg → Prop} (h : SJ X t σ t' σ') (k : LJ X all kk rest t' σ' Q) : LJ X all kk rest t σ Q :=
  fun ha Q' hq γ H a w s => let ⟨γ', H', s'⟩ := h γ H a w s; k ha Q' hq γ' H' a w s'
theorem OpJ.shift {o : Oper} {K : T → Sg → Prop} (h : SJ X t σ t' σ') (k : OpJ X o t' σ' K) : OpJ X o t σ K := fun γ H a w s => let ⟨γ', H', s'⟩ := h γ H a w s; k γ' H' a w s'
theorem SJ.trans {t'' : T} {σ'' : Sg} (h : SJ X t σ t' σ') (k : SJ X t' σ' t'' σ'') : SJ X t σ t'' σ'' := fun γ H a w s => let ⟨γ', H', s'⟩ := h γ H a w s; k γ' H' a w s'
theorem SJ.wk (ht : Wk t' t) (hs : Wk σ' σ) : SJ X t σ t' σ' := fun γ H a w s => ⟨γ, H, s.wk ht hs⟩
theorem OpJ.mono {o : Oper} {K K' : T → Sg → Prop} (h : OpJ X o t σ K) (hk : ∀ t σ, K t σ → K' t σ) : OpJ X o t σ K' := fun γ H a w s next Q' hn => h γ H a w s next Q' fun γ H t σ a w s k => hn γ H t σ a w s (hk t σ k)
/-- What follows from a state may be used. -/
theorem WJ.fact {c : Code} {Q : Qt} {p : Prop} (h : ∀ γ H a w, St X γ H t σ a w → p) (k : p → WJ X c t σ Q) : WJ X c t σ Q := fun γ H a w s => k (h γ H a w s) γ H a w s
theorem OpJ.fact {o : Oper} {K : T → Sg → Prop} {p : Prop} (h : ∀ γ H a w, St X γ H t σ a w → p) (k : p → OpJ X o t σ K) : OpJ X o t σ K := fun γ H a w s => k (h γ H a w s) γ H a w s

/-! ### Code -/
def Thn (K : T → Sg → Prop) (Q : Qt) : Qt
  | .normal, t, σ => K t σ
  | e, t, σ => Q e t σ

theorem WJ.seq {x y : Code} {Q : Qt} (h : WJ X x t σ (Thn (fun t σ => WJ X y t σ Q) Q)) : WJ X (.seq x y) t σ Q :=
  fun γ H a w s => wpIn_seq (wpIn_mono (h γ H a w s) fun e a w ⟨γ, H, t, σ, s, q⟩ => by
    cases e with
    | normal => exact q γ H a w s
    | exit id => exact ⟨γ, H, t, σ, s, q⟩
    | goto l => exact ⟨γ, H, t, σ, s, q⟩
    | ret => exact ⟨γ, H, t, σ, s, q⟩
    | panic ch => exact ⟨γ, H, t, σ, s, q⟩
    | outgrown => exact ⟨γ, H, t, σ, s, q⟩)
theorem WJ.skip {Q : Qt} (h : Q .normal t σ) : WJ X .skip t σ Q := fun γ H _ _ s => wpIn_skip ⟨γ, H, t, σ, s, h⟩
theorem WJ.ret {Q : Qt} (h : Q .ret t σ) : WJ X .ret t σ Q := fun γ H _ _ s => wpIn_ret ⟨γ, H, t, σ, s, h⟩
theorem WJ.exit {id : Nat} {Q : Qt} (h : Q (.exit id) t σ) : WJ X (.exit id) t σ Q := fun γ H _ _ s => wpIn_exit ⟨γ, H, t, σ, s, h⟩
theorem WJ.goto {l : Nat} {Q : Qt} (h : Q (.goto l) t σ) : WJ X (.goto l) t σ Q := fun γ H _ _ s => wpIn_goto ⟨γ, H, t, σ, s, h⟩

def Blk (id : Nat) (Q : Qt) : Qt
  | .exit id', t, σ => match Nat.beq id' id with | true => Q .normal t σ | false => Q (.exit id') t σ
  | e, t, σ => Q e t σ
theorem WJ.block {id : Nat} {c : Code} {Q : Qt} (h : WJ X c t σ (Blk id Q)) : WJ X (.block id c) t σ Q :=
  fun γ H a w s => wpIn_block (wpIn_mono (h γ H a w s) fun e a w ⟨γ, H, t, σ, s, q⟩ => by
    cases e with
    | normal => exact ⟨γ, H, t, σ, s, q⟩
    | exit id' =>
      simp only [Blk] at q
      simp only [Exit.inBlock]
      by_cases e : id' = id
      · rw [if_pos e]; subst e; simp only [Nat.beq_refl] at q; exact ⟨γ, H, t, σ, s, q⟩
      · rw [if_neg e]
        have : Nat.beq id' id = false := by rw [← Bool.not_eq_true, Nat.beq_eq]; exact e
        simp only [this] at q; exact ⟨γ, H, t, σ, s, q⟩
    | goto l => exact ⟨γ, H, t, σ, s, q⟩
    | ret => exact ⟨γ, H, t, σ, s, q⟩
    | panic ch => exact ⟨γ, H, t, σ, s, q⟩
    | outgrown => exact ⟨γ, H, t, σ, s, q⟩)

theorem wpIn_loop_n {F : Fence} {n : Nat} {P : Program} {c : Code} {Q : Exit → Act → World → Prop} {a : Act} {w : World} (I : Nat → Act → World → Prop) (m : Nat) (h₀ : I m a w)
    (round : ∀ m a w, I m a w → c.wpIn F n P (Exit.then (fun a' w' => ∃ m', m' < m ∧ I m' a' w') Q) a w) : (Code.loop c).wpIn F n P Q a w := by
  intro b k cs hro hb hr
  have key : ∀ j a w, I j a w →
      ∃ e a' w', Q e a' w' ∧ ArrivesIn (Machine.fenced P F) P (lone (b.atR a (.code c :: .inLoop c :: k)) cs w) b k cs e a' w' := by
    intro j
    induction j using Nat.strongRecOn with
    | _ j ih =>
      intro a w hI
      obtain ⟨e, a₁, w₁, hq, harr⟩ := round j a w hI b (.inLoop c :: k) cs hro hb hr
      cases e with
      | normal =>
        obtain ⟨m', hlt, hI₁⟩ := hq
        obtain ⟨e₂, a₂, w₂, hq₂, harr₂⟩ := ih m' hlt a₁ w₁ hI₁
        exact ⟨e₂, a₂, w₂, hq₂, .of_steps (StepsIn.trans harr (.one (fenced_calm hb hr rfl) stepR_inLoop)) harr₂⟩
      | exit id => exact ⟨_, a₁, w₁, hq, .pass (x := .inLoop c) rfl (fun _ _ => .inl (by simp)) harr⟩
      | goto l => exact ⟨_, a₁, w₁, hq, .pass (x := .inLoop c) rfl (fun _ _ => .inl (by simp)) harr⟩
      | ret => exact ⟨_, a₁, w₁, hq, .pass (x := .inLoop c) rfl (fun _ _ => .inl (by simp)) harr⟩
      | panic ch => exact ⟨_, a₁, w₁, hq, .pass (x := .inLoop c) rfl (fun _ _ => .inl (by simp)) harr⟩
      | outgrown => exact ⟨_, a₁, w₁, hq, .pass (x := .inLoop c) rfl (fun _ _ => .inl (by simp)) harr⟩
  obtain ⟨e, a', w', hq, harr⟩ := key m a w h₀
  exact ⟨e, a', w', hq, .of_steps (.one (fenced_calm hb hr rfl) stepR_loop) harr⟩

/-- A loop: what holds at each round's head, by how many rounds are left at most. -/
theorem WJ.loop {c : Code} {Q : Qt} (M : Nat → T → Sg → Prop) (n : Nat) (h0 : M n t σ)
    (round : ∀ n t σ, M n t σ → WJ X c t σ (Thn (fun t σ => ∃ m, m < n ∧ M m t σ) Q)) : WJ X (.loop c) t σ Q := by
  intro γ H a w s
  refine wpIn_loop_n (fun m a w => ∃ γ H t σ, St X γ H t σ a w ∧ M m t σ) n ⟨γ, H, t, σ, s, h0⟩ ?_
  rintro m a w ⟨γ, H, t, σ, s, hm⟩
  refine wpIn_mono (round m t σ hm γ H a w s) ?_
  rintro e a w ⟨γ, H, t, σ, s, q⟩
  cases e with
  | normal => obtain ⟨m', hlt, q⟩ := q; exact ⟨m', hlt, γ, H, t, σ, s, q⟩
  | exit id => exact ⟨γ, H, t, σ, s, q⟩
  | goto l => exact ⟨γ, H, t, σ, s, q⟩
  | ret => exact ⟨γ, H, t, σ, s, q⟩
  | panic ch => exact ⟨γ, H, t, σ, s, q⟩
  | outgrown => exact ⟨γ, H, t, σ, s, q⟩
end

/-! ### Operands -/
def cellAV (x : Value) : AV := match x.oneCell' with
  | true => .d (.v x)
  | false => .junk
def ofConst : Value → AV
  | .agg cs => .agg (cs.toList.map cellAV)
  | .tuple _ => .junk
  | x => .d (.v x)

def ge (t : T) : Operand → Option AV
  | .tmp i => look i t
  | .const x => some (ofConst x)
  | .func f => some (.d (.fn f []))
  | .global _ => none

theorem rep_cellAV {γ : Ids} {H : HF} (x : Value) : Rep γ H (cellAV x) x := by
  unfold cellAV
  split
  · next h => exact .d _ _ (.v x h)
  · exact .junk x
theorem rep_const (γ : Ids) (H : HF) (x : Value) : Rep γ H (ofConst x) x := by
  cases x with
  | agg cs =>
    have := Rep.agg (γ := γ) (H := H) (cs.toList.map cellAV) cs.toList (by simp) (fun j a u h1 h2 => by
      rw [List.getElem?_map, h2] at h1
      simp only [Option.map_some, Option.some.injEq] at h1
      subst h1
      exact rep_cellAV u)
    simpa [ofConst] using this
  | tuple vs => exact .junk _
  | _ => exact .d _ _ (.v _ rfl)

theorem rep_v {γ : Ids} {H : HF} {x u : Value} (h : Rep γ H (.d (.v x)) u) : u = x := by
  cases h with
  | d _ _ h => cases h; rfl
theorem rep_d {γ : Ids} {H : HF} {x : D} {u : Value} (h : Rep γ H (.d x) u) : RepD H x u := by cases h; assumption

theorem ge_sound {γ : Ids} {H : HF} {t : T} {a : Act} (ht : TmpOk γ H t a.tmps) {o : Operand} {x : AV} (h : ge t o = some x) : Rep γ H x (a.eval o) := by
  cases o with
  | tmp i =>
    obtain ⟨u, hu, r⟩ := ht i x h
    simp only [Act.eval, Array.getD_eq_getD_getElem?, hu, Option.getD_some]
    exact r
  | const v => simp only [ge, Option.some.injEq] at h; subst h; exact rep_const γ H v
  | func f => simp only [ge, Option.some.injEq] at h; subst h; exact .d _ _ (.fn f [] [] rfl (fun j a u h1 => by simp at h1))
  | global g => simp [ge] at h

def putT (d : Option Nat) (x : AV) (t : T) : T := match d with | some d => (d, x) :: t | none => t
def dOk (d : Option Nat) (N : Nat) : Bool := match d with | some d => Nat.blt d N | none => true
theorem put_size (a : Act) (d : Option Nat) (v : Value) : (a.put d v).tmps.size = a.tmps.size := by cases d <;> simp [Act.put]
theorem put_defers (a : Act) (d : Option Nat) (v : Value) : (a.put d v).defers = a.defers := by cases d <;> simp [Act.put]

theorem TmpOk.put {γ : Ids} {H : HF} {t : T} {a : Act} {N : Nat} (ht : TmpOk γ H t a.tmps) (hN : a.tmps.size = N) {d : Option Nat} (hd : dOk d N = true) {x : AV} {v : Value} (r : Rep γ H x v) :
    TmpOk γ H (putT d x t) (a.put d v).tmps := by
  cases d with
  | none => exact ht
  | some d =>
    have hlt : d < a.tmps.size := by simp only [dOk, Nat.blt_eq] at hd; omega
    intro i b hb
    simp only [putT, look_cons] at hb
    simp only [Act.put]
    split at hb
    · next e =>
      subst e
      simp only [Option.some.injEq] at hb
      subst hb
      exact ⟨v, by simp [hlt], r⟩
    · next e =>
      obtain ⟨u, hu, r'⟩ := ht i b hb
      exact ⟨u, by rw [Array.getElem?_setIfInBounds, if_neg (fun h => e h.symm)]; exact hu, r'⟩

/-- **The state behind a step.** -/
theorem St.step {X : Cx} {γ γ' : Ids} {H H' : HF} {t : T} {σ σ' σr : Sg} {a : Act} {w w' : World} {C : Nat → Prop} (s : St X γ H t σ a w) (k : Mem w H C γ' H' σ' w')
    (hC : ∀ b, C b → ∃ i e, look i σ = some e ∧ look i σr = none ∧ blk γ i e b) (hr : Wk σr σ) (hd : ∀ i e, look i σr = some e → look i σ' = none)
    (hg : ∀ i e, look i σr = some e → γ i = γ' i ∧ ∀ j, entHas j e = true → γ j = γ' j) (hp : ∀ i, i ∈ X.pin → γ i = γ' i)
    (ht : ∀ i x, look i t = some x → ∀ j, has2 j x = true → γ j = γ' j) {d : Option Nat} {V : AV} {v : Value} (hN : dOk d X.N = true) (r : Rep γ' H' V v) :
    St X γ' H' (putT d V t) (σ' ++ σr) (a.put d v) w' := by
  refine ⟨s.lam, s.round, ?_, ?_, fun i hi => (hp i hi).symm.trans (s.pinned i hi), ?_, s.mem.join k hC hr hd hg⟩
  · obtain ⟨ms, h1, h2⟩ := s.defers
    exact ⟨ms, by rw [put_defers]; exact h1, h2.join s.mem k hC hr hd hg⟩
  · rw [put_size]; exact s.size
  · refine TmpOk.put (N := X.N) (fun i x hi => ?_) s.size hN r
    obtain ⟨u, hu, hr⟩ := s.tmp i x hi
    exact ⟨u, hu, (hr.mono k.hle).agree (ht i x hi)⟩

/-- A quiet step. -/
theorem St.calm {X : Cx} {γ γ' : Ids} {H H' : HF} {t : T} {σ σ' : Sg} {a : Act} {w w' : World} (s : St X γ H t σ a w) (k : Mem w H (fun _ => False) γ' H' σ' w')
    {d : Option Nat} {V : AV} {v : Value} (hN : dOk d X.N = true) (r : Rep γ H' V v) : St X γ H' (putT d V t) σ (a.put d v) w' := by
  have k' : Mem w H (fun _ => False) γ H' [] w' := ⟨k.keep, k.hle, k.hnew, k.hok, fun i e h => by simp [look] at h, fun i e h => by simp [look] at h, fun i e h => by simp [look] at h, fun i e j e' b h => by simp [look] at h⟩
  exact s.step (σ' := []) (σr := σ) k' (fun _ h => h.elim) (Wk.refl σ) (fun _ _ _ => rfl) (fun _ _ _ => ⟨rfl, fun _ _ => rfl⟩) (fun _ _ => rfl) (fun _ _ _ _ _ => rfl) hN r

/-! ### The operations of a region, one behind the other -/
theorem WJ.region {X : Cx} {id : Nat} {ops : Array Oper} {t : T} {σ : Sg} {Q : Qt} (h : LJ X ops 0 ops.toList t σ (Q .normal)) : WJ X (.region id ops false) t σ Q := by
  intro γ H a w s
  refine wpIn_region ?_
  have e : List.range ops.size = List.range' 0 ops.toList.length := by simp [List.range_eq_range']
  rw [e]
  exact h (fun j => by simp) _ (fun γ H t σ a w s q => ⟨γ, H, t, σ, s, q⟩) γ H a w s

section
variable {X : Cx} {t : T} {σ : Sg}
theorem LJ.done {all : Array Oper} {k : Nat} {Q : T → Sg → Prop} (h : Q t σ) : LJ X all k [] t σ Q := fun _ Q' hq γ H a w s => hq γ H t σ a w s h

theorem shift_ops {all : Array Oper} {k : Nat} {o : Oper} {rest : List Oper} (h : ∀ j, all[k + j]? = (o :: rest)[j]?) : all[k]? = some o ∧ ∀ j, all[k + 1 + j]? = rest[j]? :=
  ⟨by simpa using h 0, fun j => by have := h (j + 1); rw [show k + 1 + j = k + (j + 1) from by omega]; simpa using this⟩

/-- The next operation is done. -/
theorem LJ.op {all : Array Oper} {k : Nat} {o : Oper} {rest : List Oper} {Q : T → Sg → Prop} (hg : o.guard = none)
    (h : OpJ X o t σ (fun t σ => LJ X all (k + 1) rest t σ Q)) : LJ X all k (o :: rest) t σ Q := by
  intro ha Q' hq γ H a w s
  obtain ⟨h0, h1⟩ := shift_ops ha
  simp only [List.length_cons, List.range'_succ]
  simp only [wpOpsIn, h0]
  have hw : Region.wanted o (yielded all a.tmps) = true := by simp [Region.wanted, hg]
  rw [if_pos hw]
  exact ⟨fun _ _ => trivial, h γ H a w s _ _ fun γ H t σ a' w' s' k' => k' h1 Q' hq γ H a' w' s'⟩

theorem rep_undef {γ : Ids} {H : HF} : Rep γ H (.tup []) undef := .tup [] [] rfl (fun j a u h => by simp at h)
theorem rep_undef_eq {γ : Ids} {H : HF} {u : Value} (r : Rep γ H (.tup []) u) : u = undef := by
  cases r with
  | tup cs us hl _ => obtain rfl := List.length_eq_zero_iff.1 hl; rfl

/-- A guarded operation, whose guard's outcome is told, or was not reached itself. -/
theorem LJ.guard {all : Array Oper} {k : Nat} {o : Oper} {rest : List Oper} {Q : T → Sg → Prop} {j : Nat} {b : Bool} {d : Nat} (hg : o.guard = some (j, b))
    (hd : ((all[j]?).bind (·.dst)) = some d) (hN : dOk o.dst X.N = true)
    (h : match look d t with
      | some (.d (.v (.bool b'))) => (b' = b → OpJ X o t σ (fun t σ => LJ X all (k + 1) rest t σ Q)) ∧ (b' ≠ b → LJ X all (k + 1) rest (putT o.dst (.tup []) t) σ Q)
      | some (.tup []) => LJ X all (k + 1) rest (putT o.dst (.tup []) t) σ Q
      | _ => False) : LJ X all k (o :: rest) t σ Q := by
  intro ha Q' hq γ H a w s
  obtain ⟨h0, h1⟩ := shift_ops ha
  simp only [List.length_cons, List.range'_succ]
  simp only [wpOpsIn, h0]
  have skip : LJ X all (k + 1) rest (putT o.dst (.tup []) t) σ Q → wpOpsIn (Fr X.ro) 0 X.P all Q' (List.range' (k + 1) rest.length) (a.put o.dst undef) w := fun h =>
    h h1 Q' hq γ H _ w (s.calm (s.mem.refl γ) hN rep_undef)
  split at h
  · next b' hb =>
    obtain ⟨u, hu, r⟩ := s.tmp d _ hb
    obtain rfl := rep_v r
    by_cases e : b' = b
    · have hw : Region.wanted o (yielded all a.tmps) = true := by simp [Region.wanted, hg, yielded, hd, hu, e]
      rw [if_pos hw]
      exact ⟨fun _ _ => trivial, h.1 e γ H a w s _ _ fun γ H t σ a' w' s' k' => k' h1 Q' hq γ H a' w' s'⟩
    · have hw : Region.wanted o (yielded all a.tmps) = false := by simp [Region.wanted, hg, yielded, hd, hu]; exact e
      simp only [hw, Bool.false_eq_true, if_false]
      exact ⟨fun _ _ => trivial, skip (h.2 e)⟩
  · next hb =>
    obtain ⟨u, hu, r⟩ := s.tmp d _ hb
    obtain rfl := rep_undef_eq r
    have hw : Region.wanted o (yielded all a.tmps) = false := by simp [Region.wanted, hg, yielded, hd, hu, undef]
    simp only [hw, Bool.false_eq_true, if_false]
    exact ⟨fun _ _ => trivial, skip h⟩
  · exact h.elim

/-- What is known of one temporary is put in another way. -/
theorem SJ.view (i : Nat) {x y : AV} (hi : look i t = some x) (h : ∀ γ H u, Rep γ H x u → Rep γ H y u) : SJ X t σ ((i, y) :: t) σ := fun γ H a w s => ⟨γ, H, s.lam, s.round, s.defers, s.size, s.pinned, fun j b hj => by
  rw [look_cons] at hj
  split at hj
  · next e => subst e; simp only [Option.some.injEq] at hj; subst hj; obtain ⟨u, hu, r⟩ := s.tmp _ _ hi; exact ⟨u, hu, h γ H u r⟩
  · exact s.tmp j b hj, s.mem⟩
end

/-! ### Operations -/
theorem semAt_of {ro : Option Nat} {ρ : Operand → Value} {o : Oper} (h : ∀ c, o.op ≠ .defer c) : o.semAt ro ρ = execOp ρ o := by
  cases ro with
  | none => rfl
  | some l => unfold Oper.semAt; split <;> simp_all

/-- An operation that turns nothing that is there yields what stands for V: by what its operands stand for alone. -/
def QJ (X : Cx) (o : Oper) (t : T) (σ : Sg) (V : AV) : Prop :=
  ∀ (γ : Ids) (H : HF) (a : Act) (w : World), Lam X.Λ X.w0 X.B → (∀ x, x ∈ o.op.operands → ∀ v, ge t x = some v → Rep γ H v (a.eval x)) → Mem X.w0 X.H0 X.B γ H σ w →
    ∀ (next : Act → World → Prop) (Q' : Exit → Act → World → Prop), (∀ v γ' σ' H' w', Mem w H (fun _ => False) γ' H' σ' w' → Rep γ H' V v → next (a.put o.dst v) w') →
      o.uponIn (Fr X.ro) 0 X.P a next Q' ((o.semAt X.ro a.eval).run X.P w)

theorem QJ.value {X : Cx} {o : Oper} {t : T} {σ : Sg} {V : AV} (hn : ∀ c, o.op ≠ .defer c)
    (h : ∀ (γ : Ids) (H : HF) (a : Act) (w : World), (∀ x, x ∈ o.op.operands → ∀ v, ge t x = some v → Rep γ H v (a.eval x)) → Mem X.w0 X.H0 X.B γ H σ w → ∃ v, (execOp a.eval o).run X.P w = .ok (.value v) w ∧ Rep γ H V v) : QJ X o t σ V := by
  intro γ H a w _ so sm next Q' hk
  obtain ⟨v, hv, r⟩ := h γ H a w so sm
  rw [semAt_of hn, hv, Oper.uponIn_value]
  exact hk v γ [] H w (sm.refl γ) r

theorem QJ.wk {X : Cx} {o : Oper} {t t' : T} {σ σ' : Sg} {V : AV} (ht : Wk t' t) (hs : Wk σ' σ) (h : QJ X o t' σ' V) : QJ X o t σ V :=
  fun γ H a w hl so sm => h γ H a w hl (fun x hx v hv => so x hx v (by
    cases x with
    | tmp i => exact ht i v hv
    | const c => exact hv
    | func f => exact hv
    | global g => exact hv)) (sm.wk hs)
theorem QJ.view {X : Cx} {o : Oper} {t : T} {σ : Sg} {V V' : AV} (h : QJ X o t σ V) (hv : ∀ γ H u, Rep γ H V u → Rep γ H V' u) : QJ X o t σ V' :=
  fun γ H a w hl so sm next Q' hk => h γ H a w hl so sm next Q' fun v γ' σ' H' w' hm hr => hk v γ' σ' H' w' hm (hv _ _ _ hr)

theorem OpJ.quiet {X : Cx} {o : Oper} {t : T} {σ : Sg} {V : AV} {K : T → Sg → Prop} (h : QJ X o t σ V) (hN : dOk o.dst X.N = true) (k : K (putT o.dst V t) σ) : OpJ X o t σ K := by
  intro γ H a w s next Q' hk
  exact h γ H a w s.lam (fun _ _ _ hv => ge_sound s.tmp hv) s.mem next Q' fun v γ' σ' H' w' hm hr => hk γ H' _ σ _ w' (s.calm hm hN hr) k

/-! ### Contracts -/
/-- Called with what stands for these, lent these private things, it returns; nothing else that was there has turned; Q of the result and of what is private then. Lent variables stay where they are. -/
def Ct (Λ : Amb) (P : Program) (f : FuncId) (avs : List AV) (σ : Sg) (Q : AV → Sg → Prop) : Prop :=
  ∀ (ro : Option Nat) (γ : Ids) (H : HF) (w : World) (vs : List Value), Lam Λ w (blks γ σ) → Mem w H (blks γ σ) γ H σ w → vs.length = avs.length →
    (∀ (j : Nat) (a : AV) (u : Value), avs[j]? = some a → vs[j]? = some u → Rep γ H a u) →
    CallsIn (Fr ro) 0 P f vs.toArray w fun e w' => ∃ v r σ' γ' H', e = .returned v ∧ Q r σ' ∧ Rep γ' H' r v ∧ (∀ i, look i σ' = none → γ i = γ' i) ∧ (∀ i cs, look i σ = some (.cells cs) → γ i = γ' i) ∧ Mem w H (blks γ σ) γ' H' σ' w'

theorem Ct.mono {Λ : Amb} {P : Program} {f : FuncId} {avs : List AV} {σ : Sg} {Q Q' : AV → Sg → Prop} (h : Ct Λ P f avs σ Q) (hq : ∀ r σ, Q r σ → Q' r σ) : Ct Λ P f avs σ Q' :=
  fun ro γ H w vs h1 h2 h3 h4 => (h ro γ H w vs h1 h2 h3 h4).mono fun e w' ⟨v, r, σ, γ', H', he, hQ, hr, ha, hp, hm⟩ => ⟨v, r, σ, γ', H', he, hq r σ hQ, hr, ha, hp, hm⟩

def numbered {α : Type} : Nat → List α → List (Nat × α)
  | _, [] => []
  | k, a :: r => (k, a) :: numbered (k + 1) r
theorem look_numbered {α : Type} (l : List α) : ∀ (k i : Nat) (a : α), look i (numbered k l) = some a → ∃ j, i = k + j ∧ l[j]? = some a := by
  induction l with
  | nil => intro k i a h; simp [numbered, look] at h
  | cons b r ih =>
    intro k i a h
    simp only [numbered, look_cons] at h
    split at h
    · exact ⟨0, by omega, by simpa using h⟩
    · obtain ⟨j, e, hj⟩ := ih (k + 1) i a h
      exact ⟨j + 1, by omega, by simpa using hj⟩

/-- Names that the result and what it leads to speak of. -/
def closedB (pin : List Nat) (r : AV) (σ : Sg) : Prop := (∀ j, has2 j r = true → (look j σ).isSome = true ∨ j ∈ pin) ∧ ∀ i e, look i σ = some e → ∀ j, entHas j e = true → (look j σ).isSome = true ∨ j ∈ pin

/-- What the results of the function stand for, told with the private things that are handed back. -/
def RetIs (X : Cx) (fn : Func) (t : T) (σ : Sg) (r : AV) (σ' : Sg) : Prop :=
  ∀ γ H a w, St X γ H t σ a w → ∃ v γ' H', (results fn a.tmps).run X.P w = .ok v w ∧ St X γ' H' t σ' a w ∧ Rep γ' H' r v

def Ret (X : Cx) (fn : Func) (Q : AV → Sg → Prop) : Qt
  | .normal, t, σ | .ret, t, σ => ∃ r σ', RetIs X fn t σ r σ' ∧ closedB X.pin r σ' ∧ Q r σ'
  | _, _, _ => False

def pinsOf (σ : Sg) : List Nat := σ.filterMap fun p => match p.2 with | .cells _ => some p.1 | _ => none
theorem mem_pins {σ : Sg} {i : Nat} {cs : List AV} (h : look i σ = some (.cells cs)) : i ∈ pinsOf σ := by
  simp only [pinsOf, List.mem_filterMap]
  exact ⟨_, look_mem h, rfl⟩

theorem putObj_mem {w0 w : World} {H0 H : HF} {B : Nat → Prop} {γ : Ids} {σ : Sg} {b : Nat} {o : Obj} (h : Mem w0 H0 B γ H σ w) (hb : w.heap[b]? = some (.deferred (some []))) (h0 : w0.heap.size ≤ b) (hn : ¬ blks γ σ b) :
    Mem w0 H0 B γ H σ (w.putObj b o) := by
  have hs : ∀ k, k ≠ b → (w.putObj b o).heap[k]? = w.heap[k]? := fun k hk => World.putObj_heap_other hk
  have hne : ∀ c x v, w.cell? ⟨c, x, none⟩ = some v → c ≠ b := fun c x v hc e => by subst e; simp [World.cell?, hb] at hc
  refine ⟨⟨h.keep.os, h.keep.tape, h.keep.output, by simpa using h.keep.size, fun k hk hB => (hs k (by omega)).trans (h.keep.block k hk hB)⟩, h.hle, h.hnew, ⟨fun c x v hv => ?_, fun c x y hv => ?_⟩, fun i e hi => ?_, h.free, h.fresh, h.apart⟩
  · have := h.hok.c c x v hv
    simp only [World.cell?] at this ⊢
    rw [hs c (hne c x v (h.hok.c c x v hv))]; exact this
  · have := h.hok.m c x y hv
    rw [hs c fun e => by subst e; rw [hb] at this; cases this]; exact this
  · exact (h.ent i e hi).later (HLe.refl _) (by simp) fun c hc => hs c fun e' => hn (e' ▸ ⟨i, e, hi, hc⟩)
end Go.Gv
