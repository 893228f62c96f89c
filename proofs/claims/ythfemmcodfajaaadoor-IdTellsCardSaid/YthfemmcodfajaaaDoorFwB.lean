/- The abstract state of an activation, what it says of the machine's, and the judgement on code. -/
import Derived.Test.YthfemmcodfajaaaDoorFwA
set_option linter.unusedVariables false
set_option linter.unusedSimpArgs false
namespace Go.Sv
open Go.RowKit

def look {α : Type} (i : Nat) : List (Nat × α) → Option α
  | [] => none
  | (j, a) :: r => match Nat.beq i j with | true => some a | false => look i r

theorem look_cons {α : Type} (i j : Nat) (a : α) (r : List (Nat × α)) : look i ((j, a) :: r) = if i = j then some a else look i r := by
  simp only [look]
  by_cases h : i = j
  · simp [h]
  · have : Nat.beq i j = false := by rw [← Bool.not_eq_true, Nat.beq_eq]; exact h
    simp [this, h]

/-- What is private: a block whose cells are told; the tail of a row that grows; a row that may be written. -/
inductive Ent where
  | gone
  | cells (cs : List AV)
  | row (k n : Nat)
  | arr (k : Nat) (xs : List (List D))
  | obj (o : Obj)

abbrev T := List (Nat × AV)
abbrev Sg := List (Nat × Ent)

def Real (γ : Ids) (i : Nat) : Ent → Prop
  | .gone => False
  | .cells _ => True
  | .row _ n => n < (γ i).2
  | .arr _ _ => 0 < (γ i).2
  | .obj _ => True

def EntOk (γ : Ids) (H : HF) (w : World) (i : Nat) : Ent → Prop
  | .gone => True
  | .cells cs => (∀ o, H (γ i).1 o = none) ∧ ∃ (t : TypeId) (us : List Value), w.heap[(γ i).1]? = some (.cells us.toArray t (0, 0)) ∧ us.length = cs.length ∧ ∀ (j : Nat) (a : AV) (u : Value), cs[j]? = some a → us[j]? = some u → Rep γ H a u
  | .row k n => n ≤ (γ i).2 ∧ (n < (γ i).2 → (∀ o, n * k ≤ o → H (γ i).1 o = none) ∧ ∃ (t : TypeId) (us : List Value), w.heap[(γ i).1]? = some (.cells us.toArray t (0, 0)) ∧ us.length = (γ i).2 * k)
  | .arr k xs => xs.length ≤ (γ i).2 ∧ (∀ cs, cs ∈ xs → cs.length = k) ∧ (0 < (γ i).2 → (∀ o, H (γ i).1 o = none) ∧ ∃ (t : TypeId) (us : List Value), w.heap[(γ i).1]? = some (.cells us.toArray t (0, 0)) ∧ us.length = (γ i).2 * k ∧
      ∀ (j l : Nat) (cs : List D) (a : D) (u : Value), xs[j]? = some cs → cs[l]? = some a → us[j * k + l]? = some u → RepD H a u)
  | .obj o => w.heap[(γ i).1]? = some o

/-- What was there when it began stands, but for the blocks of B. -/
structure Keeps (w0 : World) (B : Nat → Prop) (w : World) : Prop where
  os : w.os = w0.os
  tape : w.tape = w0.tape
  output : w.output = w0.output
  size : w0.heap.size ≤ w.heap.size
  block : ∀ k, k < w0.heap.size → ¬ B k → w.heap[k]? = w0.heap[k]?

theorem Keeps.refl (B : Nat → Prop) (w : World) : Keeps w B w := ⟨rfl, rfl, rfl, Nat.le_refl _, fun _ _ _ => rfl⟩
theorem Keeps.below {w0 w : World} {B : Nat → Prop} (h : Keeps w0 B w) (hB : ∀ k, ¬ B k) : Below w0.heap.size w0 w := ⟨h.os, h.tape, h.output, h.size, fun k hk => h.block k hk (hB k)⟩

structure Mem (w0 : World) (H0 : HF) (B : Nat → Prop) (γ : Ids) (H : HF) (σ : Sg) (w : World) : Prop where
  keep : Keeps w0 B w
  hle : HLe H0 H
  hnew : ∀ b o v, H b o = some v → H0 b o = some v ∨ w0.heap.size ≤ b
  hok : ∀ b o v, H b o = some v → w.cell? ⟨b, o, none⟩ = some v
  ent : ∀ i e, look i σ = some e → EntOk γ H w i e
  fresh : ∀ i e, look i σ = some e → Real γ i e → w0.heap.size ≤ (γ i).1 ∨ B (γ i).1
  apart : ∀ i e j e', look i σ = some e → look j σ = some e' → Real γ i e → Real γ j e' → (γ i).1 = (γ j).1 → i = j

def TmpOk (γ : Ids) (H : HF) (t : T) (tm : Array Value) : Prop := ∀ i a, look i t = some a → ∃ u, tm[i]? = some u ∧ Rep γ H a u

structure St (w0 : World) (H0 : HF) (B : Nat → Prop) (N : Nat) (D : List Nat) (γ : Ids) (H : HF) (t : T) (σ : Sg) (a : Act) (w : World) : Prop where
  defers : a.defers = D.map fun i => { target := .collected (γ i).1, args := #[] }
  size : a.tmps.size = N
  tmp : TmpOk γ H t a.tmps
  mem : Mem w0 H0 B γ H σ w

/-- Where the proofs live: every function may be called, however deep; perhaps in a round of a range over a function. -/
def Fr (ro : Option Nat) : Fence := { fn := fun _ => True, depth := none, alive := false, round := ro }

/-- An activation: the program, its first world, what it may touch of that, how many temporaries it has, what it has deferred. -/
structure Cx where
  P : Program
  ro : Option Nat
  w0 : World
  H0 : HF
  B : Nat → Prop
  N : Nat
  D : List Nat

abbrev Qt := Exit → T → Sg → Prop

def Post (X : Cx) (Q : Qt) (e : Exit) (a : Act) (w : World) : Prop := ∃ γ H t σ, St X.w0 X.H0 X.B X.N X.D γ H t σ a w ∧ Q e t σ

def WJ (X : Cx) (c : Code) (t : T) (σ : Sg) (Q : Qt) : Prop := ∀ γ H a w, St X.w0 X.H0 X.B X.N X.D γ H t σ a w → c.wpIn (Fr X.ro) 0 X.P (Post X Q) a w

/-- The operations of a region, in their order, from the k-th on. -/
def LJ (X : Cx) (all : Array Oper) (k : Nat) (rest : List Oper) (t : T) (σ : Sg) (Q : T → Sg → Prop) : Prop :=
  (∀ j, all[k + j]? = rest[j]?) → ∀ Q' : Exit → Act → World → Prop, (∀ γ H t σ a w, St X.w0 X.H0 X.B X.N X.D γ H t σ a w → Q t σ → Q' .normal a w) →
    ∀ γ H a w, St X.w0 X.H0 X.B X.N X.D γ H t σ a w → wpOpsIn (Fr X.ro) 0 X.P all Q' (List.range' k rest.length) a w

/-- One operation. -/
def OpJ (X : Cx) (o : Oper) (t : T) (σ : Sg) (K : T → Sg → Prop) : Prop :=
  ∀ γ H a w, St X.w0 X.H0 X.B X.N X.D γ H t σ a w →
    ∀ (next : Act → World → Prop) (Q' : Exit → Act → World → Prop), (∀ γ H t σ a' w', St X.w0 X.H0 X.B X.N X.D γ H t σ a' w' → K t σ → next a' w') →
      o.uponIn (Fr X.ro) 0 X.P a next Q' ((o.semAt X.ro a.eval).run X.P w)

/-! ### Less is known -/
def Wk {α : Type} (l' l : List (Nat × α)) : Prop := ∀ i a, look i l' = some a → look i l = some a
theorem Wk.nil {α : Type} (l : List (Nat × α)) : Wk [] l := fun _ _ h => by simp [look] at h
theorem Wk.refl {α : Type} (l : List (Nat × α)) : Wk l l := fun _ _ h => h
theorem Wk.cons {α : Type} {l' l : List (Nat × α)} {i : Nat} {a : α} (h : look i l = some a) (k : Wk l' l) : Wk ((i, a) :: l') l := fun j b hb => by
  rw [look_cons] at hb
  split at hb
  · next e => rw [e]; exact h.trans hb
  · exact k j b hb
theorem TmpOk.wk {γ : Ids} {H : HF} {t t' : T} {tm : Array Value} (h : TmpOk γ H t tm) (k : Wk t' t) : TmpOk γ H t' tm := fun i a hi => h i a (k i a hi)
theorem Mem.wk {w0 w : World} {H0 : HF} {B : Nat → Prop} {γ : Ids} {H : HF} {σ σ' : Sg} (h : Mem w0 H0 B γ H σ w) (k : Wk σ' σ) : Mem w0 H0 B γ H σ' w :=
  ⟨h.keep, h.hle, h.hnew, h.hok, fun i e hi => h.ent i e (k i e hi), fun i e hi => h.fresh i e (k i e hi), fun i e j e' hi hj => h.apart i e j e' (k i e hi) (k j e' hj)⟩
theorem WJ.wk {X : Cx} {c : Code} {t t' : T} {σ σ' : Sg} {Q : Qt} (ht : Wk t' t) (hs : Wk σ' σ) (h : WJ X c t' σ' Q) : WJ X c t σ Q :=
  fun γ H a w s => h γ H a w ⟨s.defers, s.size, s.tmp.wk ht, s.mem.wk hs⟩

/-! ### Code -/
theorem WJ.mono {X : Cx} {c : Code} {t : T} {σ : Sg} {Q Q' : Qt} (h : WJ X c t σ Q) (hq : ∀ e t σ, Q e t σ → Q' e t σ) : WJ X c t σ Q' :=
  fun γ H a w s => wpIn_mono (h γ H a w s) fun e a w ⟨γ, H, t, σ, s, q⟩ => ⟨γ, H, t, σ, s, hq e t σ q⟩

def Thn (K : T → Sg → Prop) (Q : Qt) : Qt
  | .normal, t, σ => K t σ
  | e, t, σ => Q e t σ

theorem WJ.seq {X : Cx} {x y : Code} {t : T} {σ : Sg} {Q : Qt} (h : WJ X x t σ (Thn (fun t σ => WJ X y t σ Q) Q)) : WJ X (.seq x y) t σ Q :=
  fun γ H a w s => wpIn_seq (wpIn_mono (h γ H a w s) fun e a w ⟨γ, H, t, σ, s, q⟩ => by
    cases e with
    | normal => exact q γ H a w s
    | exit id => exact ⟨γ, H, t, σ, s, q⟩
    | goto l => exact ⟨γ, H, t, σ, s, q⟩
    | ret => exact ⟨γ, H, t, σ, s, q⟩
    | panic ch => exact ⟨γ, H, t, σ, s, q⟩
    | outgrown => exact ⟨γ, H, t, σ, s, q⟩)

/-- A sequence, with what holds between. -/
theorem WJ.cut {X : Cx} {x y : Code} {t : T} {σ : Sg} {Q : Qt} (M : T → Sg → Prop) (h : WJ X x t σ (Thn M Q)) (k : ∀ t σ, M t σ → WJ X y t σ Q) : WJ X (.seq x y) t σ Q :=
  WJ.seq (h.mono fun e t σ q => by cases e <;> first | exact k t σ q | exact q)

theorem WJ.skip {X : Cx} {t : T} {σ : Sg} {Q : Qt} (h : Q .normal t σ) : WJ X .skip t σ Q := fun γ H _ _ s => wpIn_skip ⟨γ, H, t, σ, s, h⟩
theorem WJ.ret {X : Cx} {t : T} {σ : Sg} {Q : Qt} (h : Q .ret t σ) : WJ X .ret t σ Q := fun γ H _ _ s => wpIn_ret ⟨γ, H, t, σ, s, h⟩
theorem WJ.exit {X : Cx} {id : Nat} {t : T} {σ : Sg} {Q : Qt} (h : Q (.exit id) t σ) : WJ X (.exit id) t σ Q := fun γ H _ _ s => wpIn_exit ⟨γ, H, t, σ, s, h⟩

def Blk (id : Nat) (Q : Qt) : Qt
  | .exit id', t, σ => if id' = id then Q .normal t σ else Q (.exit id') t σ
  | e, t, σ => Q e t σ
theorem WJ.block {X : Cx} {id : Nat} {c : Code} {t : T} {σ : Sg} {Q : Qt} (h : WJ X c t σ (Blk id Q)) : WJ X (.block id c) t σ Q :=
  fun γ H a w s => wpIn_block (wpIn_mono (h γ H a w s) fun e a w ⟨γ, H, t, σ, s, q⟩ => by
    cases e with
    | normal => exact ⟨γ, H, t, σ, s, q⟩
    | exit id' =>
      simp only [Blk] at q
      simp only [Exit.inBlock]
      split
      · next e => rw [if_pos e] at q; exact ⟨γ, H, t, σ, s, q⟩
      · next e => rw [if_neg e] at q; exact ⟨γ, H, t, σ, s, q⟩
    | goto l => exact ⟨γ, H, t, σ, s, q⟩
    | ret => exact ⟨γ, H, t, σ, s, q⟩
    | panic ch => exact ⟨γ, H, t, σ, s, q⟩
    | outgrown => exact ⟨γ, H, t, σ, s, q⟩)

theorem wpIn_loop_n {F : Fence} {n : Nat} {P : Program} {c : Code} {Q : Exit → Act → World → Prop} {a : Act} {w : World} (I : Nat → Act → World → Prop) (m : Nat) (h₀ : I m a w)
    (round : ∀ m a w, I m a w → c.wpIn F n P (Exit.then (fun a' w' => ∃ m', m' < m ∧ I m' a' w') Q) a w) : (Code.loop c).wpIn F n P Q a w := by
  intro b k cs hro hb hr
  have key : ∀ j a w, I j a w →
      ∃ e a' w', Q e a' w' ∧ ArrivesIn (Machine.fenced P F) P (lone (b.atR a (.code c :: .inLoop c :: k)) cs w) b k cs e a' w' := by
    intro j
    induction j using Nat.strongRecOn with
    | _ j ih =>
      intro a w hI
      obtain ⟨e, a₁, w₁, hq, harr⟩ := round j a w hI b (.inLoop c :: k) cs hro hb hr
      cases e with
      | normal =>
        obtain ⟨m', hlt, hI₁⟩ := hq
        obtain ⟨e₂, a₂, w₂, hq₂, harr₂⟩ := ih m' hlt a₁ w₁ hI₁
        exact ⟨e₂, a₂, w₂, hq₂, .of_steps (StepsIn.trans harr (.one (fenced_calm hb hr rfl) stepR_inLoop)) harr₂⟩
      | exit id => exact ⟨_, a₁, w₁, hq, .pass (x := .inLoop c) rfl (fun _ _ => .inl (by simp)) harr⟩
      | goto l => exact ⟨_, a₁, w₁, hq, .pass (x := .inLoop c) rfl (fun _ _ => .inl (by simp)) harr⟩
      | ret => exact ⟨_, a₁, w₁, hq, .pass (x := .inLoop c) rfl (fun _ _ => .inl (by simp)) harr⟩
      | panic ch => exact ⟨_, a₁, w₁, hq, .pass (x := .inLoop c) rfl (fun _ _ => .inl (by simp)) harr⟩
      | outgrown => exact ⟨_, a₁, w₁, hq, .pass (x := .inLoop c) rfl (fun _ _ => .inl (by simp)) harr⟩
  obtain ⟨e, a', w', hq, harr⟩ := key m a w h₀
  exact ⟨e, a', w', hq, .of_steps (.one (fenced_calm hb hr rfl) stepR_loop) harr⟩

/-- A loop: what holds at each round's head, by how many rounds are left at most. -/
theorem WJ.loop {X : Cx} {c : Code} {t : T} {σ : Sg} {Q : Qt} (M : Nat → T → Sg → Prop) (n : Nat) (h0 : M n t σ)
    (round : ∀ n t σ, M n t σ → WJ X c t σ (Thn (fun t σ => ∃ m, m < n ∧ M m t σ) Q)) : WJ X (.loop c) t σ Q := by
  intro γ H a w s
  refine wpIn_loop_n (fun m a w => ∃ γ H t σ, St X.w0 X.H0 X.B X.N X.D γ H t σ a w ∧ M m t σ) n ⟨γ, H, t, σ, s, h0⟩ ?_
  rintro m a w ⟨γ, H, t, σ, s, hm⟩
  refine wpIn_mono (round m t σ hm γ H a w s) ?_
  rintro e a w ⟨γ, H, t, σ, s, q⟩
  cases e with
  | normal => obtain ⟨m', hlt, q⟩ := q; exact ⟨m', hlt, γ, H, t, σ, s, q⟩
  | exit id => exact ⟨γ, H, t, σ, s, q⟩
  | goto l => exact ⟨γ, H, t, σ, s, q⟩
  | ret => exact ⟨γ, H, t, σ, s, q⟩
  | panic ch => exact ⟨γ, H, t, σ, s, q⟩
  | outgrown => exact ⟨γ, H, t, σ, s, q⟩

/-! ### Operands -/
def ofConst : Value → AV
  | .agg cs => .agg (cs.toList.map fun x => match x.oneCell' with | true => .d (.v x) | false => .junk)
  | .tuple _ => .junk
  | x => .d (.v x)

def ge (t : T) : Operand → Option AV
  | .tmp i => look i t
  | .const x => some (ofConst x)
  | .func f => some (.d (.fn f []))
  | .global _ => none

theorem rep_const (γ : Ids) (H : HF) (x : Value) : Rep γ H (ofConst x) x := by
  cases x with
  | agg cs =>
    have := Rep.agg (γ := γ) (H := H) (cs.toList.map fun x => match x.oneCell' with | true => AV.d (.v x) | false => .junk) cs.toList (by simp) (fun j a u h1 h2 => by
      rw [List.getElem?_map, h2] at h1
      simp only [Option.map_some, Option.some.injEq] at h1
      subst h1
      split
      · next h => exact .d _ _ (.v u h)
      · exact .junk u)
    simpa [ofConst] using this
  | tuple vs => exact .junk _
  | _ => exact .d _ _ (.v _ rfl)

theorem rep_v {γ : Ids} {H : HF} {x u : Value} (h : Rep γ H (.d (.v x)) u) : u = x := by
  cases h with
  | d _ _ h => cases h; rfl

theorem ge_sound {γ : Ids} {H : HF} {t : T} {a : Act} (ht : TmpOk γ H t a.tmps) {o : Operand} {x : AV} (h : ge t o = some x) : Rep γ H x (a.eval o) := by
  cases o with
  | tmp i =>
    obtain ⟨u, hu, r⟩ := ht i x h
    simp only [Act.eval, Array.getD_eq_getD_getElem?, hu, Option.getD_some]
    exact r
  | const v => simp only [ge, Option.some.injEq] at h; subst h; exact rep_const γ H v
  | func f => simp only [ge, Option.some.injEq] at h; subst h; exact .d _ _ (.fn f [] [] rfl (fun j a u h1 => by simp at h1))
  | global g => simp [ge] at h

def putT (d : Option Nat) (x : AV) (t : T) : T := match d with | some d => (d, x) :: t | none => t
def dOk (d : Option Nat) (N : Nat) : Bool := match d with | some d => Nat.blt d N | none => true

theorem put_size (a : Act) (d : Option Nat) (v : Value) : (a.put d v).tmps.size = a.tmps.size := by cases d <;> simp [Act.put]
theorem put_defers (a : Act) (d : Option Nat) (v : Value) : (a.put d v).defers = a.defers := by cases d <;> simp [Act.put]

theorem TmpOk.put {γ : Ids} {H : HF} {t : T} {a : Act} {N : Nat} (ht : TmpOk γ H t a.tmps) (hN : a.tmps.size = N) {d : Option Nat} (hd : dOk d N = true) {x : AV} {v : Value} (r : Rep γ H x v) :
    TmpOk γ H (putT d x t) (a.put d v).tmps := by
  cases d with
  | none => exact ht
  | some d =>
    have hlt : d < a.tmps.size := by simp only [dOk, Nat.blt_eq] at hd; omega
    intro i b hb
    simp only [putT, look_cons] at hb
    simp only [Act.put]
    split at hb
    · next e =>
      subst e
      simp only [Option.some.injEq] at hb
      subst hb
      exact ⟨v, by simp [Array.getElem?_setIfInBounds, hlt], r⟩
    · next e =>
      obtain ⟨u, hu, r'⟩ := ht i b hb
      exact ⟨u, by rw [Array.getElem?_setIfInBounds, if_neg (fun h => e h.symm)]; exact hu, r'⟩

theorem TmpOk.mono {γ : Ids} {H H' : HF} (hle : HLe H H') {t : T} {tm : Array Value} (h : TmpOk γ H t tm) : TmpOk γ H' t tm := fun i a hi => let ⟨u, hu, r⟩ := h i a hi; ⟨u, hu, r.mono hle⟩

/-! ### The operations of a region, one behind the other -/
theorem WJ.region {X : Cx} {id : Nat} {ops : Array Oper} {t : T} {σ : Sg} {Q : Qt} (h : LJ X ops 0 ops.toList t σ (Q .normal)) : WJ X (.region id ops false) t σ Q := by
  intro γ H a w s
  refine wpIn_region ?_
  have e : List.range ops.size = List.range' 0 ops.toList.length := by simp [List.range_eq_range']
  rw [e]
  exact h (fun j => by simp) _ (fun γ H t σ a w s q => ⟨γ, H, t, σ, s, q⟩) γ H a w s

theorem LJ.done {X : Cx} {all : Array Oper} {k : Nat} {t : T} {σ : Sg} {Q : T → Sg → Prop} (h : Q t σ) : LJ X all k [] t σ Q :=
  fun _ Q' hq γ H a w s => hq γ H t σ a w s h

theorem shift_ops {all : Array Oper} {k : Nat} {o : Oper} {rest : List Oper} (h : ∀ j, all[k + j]? = (o :: rest)[j]?) : all[k]? = some o ∧ ∀ j, all[k + 1 + j]? = rest[j]? :=
  ⟨by simpa using h 0, fun j => by have := h (j + 1); rw [show k + 1 + j = k + (j + 1) from by omega]; simpa using this⟩

/-- The next operation is done. -/
theorem LJ.op {X : Cx} {all : Array Oper} {k : Nat} {o : Oper} {rest : List Oper} {t : T} {σ : Sg} {Q : T → Sg → Prop} (hg : o.guard = none)
    (h : OpJ X o t σ (fun t σ => LJ X all (k + 1) rest t σ Q)) : LJ X all k (o :: rest) t σ Q := by
  intro ha Q' hq γ H a w s
  obtain ⟨h0, h1⟩ := shift_ops ha
  simp only [List.length_cons, List.range'_succ]
  simp only [wpOpsIn, h0]
  have hw : Region.wanted o (yielded all a.tmps) = true := by simp [Region.wanted, hg]
  rw [if_pos hw]
  exact ⟨fun _ _ => trivial, h γ H a w s _ _ fun γ H t σ a' w' s' k' => k' h1 Q' hq γ H a' w' s'⟩

/-- A guarded operation: its guard's outcome is known. -/
theorem LJ.yes {X : Cx} {all : Array Oper} {k : Nat} {o : Oper} {rest : List Oper} {t : T} {σ : Sg} {Q : T → Sg → Prop} {j : Nat} {b : Bool} {d : Nat} (hg : o.guard = some (j, b))
    (hd : ((all[j]?).bind (·.dst)) = some d) (hb : look d t = some (.d (.v (.bool b))))
    (h : OpJ X o t σ (fun t σ => LJ X all (k + 1) rest t σ Q)) : LJ X all k (o :: rest) t σ Q := by
  intro ha Q' hq γ H a w s
  obtain ⟨h0, h1⟩ := shift_ops ha
  simp only [List.length_cons, List.range'_succ]
  simp only [wpOpsIn, h0]
  obtain ⟨u, hu, r⟩ := s.tmp d _ hb
  obtain rfl := rep_v r
  have hw : Region.wanted o (yielded all a.tmps) = true := by simp [Region.wanted, hg, yielded, hd, hu]
  rw [if_pos hw]
  exact ⟨fun _ _ => trivial, h γ H a w s _ _ fun γ H t σ a' w' s' k' => k' h1 Q' hq γ H a' w' s'⟩

theorem rep_undef {γ : Ids} {H : HF} : Rep γ H (.tup []) undef := .tup [] [] rfl (fun j a u h => by simp at h)
theorem rep_undef_eq {γ : Ids} {H : HF} {u : Value} (r : Rep γ H (.tup []) u) : u = undef := by
  cases r with
  | tup cs us hl _ => obtain rfl := List.length_eq_zero_iff.1 hl; rfl
theorem LJ.no {X : Cx} {all : Array Oper} {k : Nat} {o : Oper} {rest : List Oper} {t : T} {σ : Sg} {Q : T → Sg → Prop} {j : Nat} {b b' : Bool} {d : Nat} (hg : o.guard = some (j, b))
    (hd : ((all[j]?).bind (·.dst)) = some d) (hb : look d t = some (.d (.v (.bool b')))) (hne : (b' == b) = false) (hN : dOk o.dst X.N = true)
    (h : LJ X all (k + 1) rest (putT o.dst (.tup []) t) σ Q) : LJ X all k (o :: rest) t σ Q := by
  intro ha Q' hq γ H a w s
  obtain ⟨h0, h1⟩ := shift_ops ha
  simp only [List.length_cons, List.range'_succ]
  simp only [wpOpsIn, h0]
  obtain ⟨u, hu, r⟩ := s.tmp d _ hb
  obtain rfl := rep_v r
  have hw : Region.wanted o (yielded all a.tmps) = false := by simp [Region.wanted, hg, yielded, hd, hu]; simpa using hne
  simp only [hw, Bool.false_eq_true, if_false]
  refine ⟨fun _ _ => trivial, h h1 Q' hq γ H _ w ⟨?_, ?_, s.tmp.put s.size hN rep_undef, s.mem⟩⟩
  · rw [put_defers]; exact s.defers
  · rw [put_size]; exact s.size
theorem LJ.noU {X : Cx} {all : Array Oper} {k : Nat} {o : Oper} {rest : List Oper} {t : T} {σ : Sg} {Q : T → Sg → Prop} {j : Nat} {b : Bool} {d : Nat} (hg : o.guard = some (j, b))
    (hd : ((all[j]?).bind (·.dst)) = some d) (hb : look d t = some (.tup [])) (hN : dOk o.dst X.N = true)
    (h : LJ X all (k + 1) rest (putT o.dst (.tup []) t) σ Q) : LJ X all k (o :: rest) t σ Q := by
  intro ha Q' hq γ H a w s
  obtain ⟨h0, h1⟩ := shift_ops ha
  simp only [List.length_cons, List.range'_succ]
  simp only [wpOpsIn, h0]
  obtain ⟨u, hu, r⟩ := s.tmp d _ hb
  obtain rfl := rep_undef_eq r
  have hw : Region.wanted o (yielded all a.tmps) = false := by simp [Region.wanted, hg, yielded, hd, hu, undef]
  simp only [hw, Bool.false_eq_true, if_false]
  refine ⟨fun _ _ => trivial, h h1 Q' hq γ H _ w ⟨?_, ?_, s.tmp.put s.size hN rep_undef, s.mem⟩⟩
  · rw [put_defers]; exact s.defers
  · rw [put_size]; exact s.size

/-! ### Operations -/
theorem semAt_of {ro : Option Nat} {ρ : Operand → Value} {o : Oper} (h : ∀ c, o.op ≠ .defer c) : o.semAt ro ρ = execOp ρ o := by
  cases ro with
  | none => rfl
  | some l => unfold Oper.semAt; split <;> simp_all

theorem Mem.refl {w0 w : World} {H0 H : HF} {B : Nat → Prop} {γ : Ids} {σ : Sg} (h : Mem w0 H0 B γ H σ w) : Mem w H (fun _ => False) γ H [] w :=
  ⟨Keeps.refl _ _, HLe.refl _, fun _ _ _ h => .inl h, h.hok, fun i e h => by simp [look] at h, fun i e h => by simp [look] at h, fun i e j e' h => by simp [look] at h⟩

/-- An operation that turns nothing that is there yields what stands for V: by what its operands stand for alone. -/
def QJ (X : Cx) (o : Oper) (t : T) (σ : Sg) (V : AV) : Prop :=
  ∀ (γ : Ids) (H : HF) (a : Act) (w : World), (∀ x, x ∈ o.op.operands → ∀ v, ge t x = some v → Rep γ H v (a.eval x)) → Mem X.w0 X.H0 X.B γ H σ w →
    ∀ (next : Act → World → Prop) (Q' : Exit → Act → World → Prop), (∀ v γ' σ' H' w', Mem w H (fun _ => False) γ' H' σ' w' → Rep γ H' V v → next (a.put o.dst v) w') →
      o.uponIn (Fr X.ro) 0 X.P a next Q' ((o.semAt X.ro a.eval).run X.P w)

theorem QJ.value {X : Cx} {o : Oper} {t : T} {σ : Sg} {V : AV} (hn : ∀ c, o.op ≠ .defer c)
    (h : ∀ (γ : Ids) (H : HF) (a : Act) (w : World), (∀ x, x ∈ o.op.operands → ∀ v, ge t x = some v → Rep γ H v (a.eval x)) → Mem X.w0 X.H0 X.B γ H σ w → ∃ v, (execOp a.eval o).run X.P w = .ok (.value v) w ∧ Rep γ H V v) : QJ X o t σ V := by
  intro γ H a w so sm next Q' hk
  obtain ⟨v, hv, r⟩ := h γ H a w so sm
  rw [semAt_of hn, hv, Oper.uponIn_value]
  exact hk v γ [] H w sm.refl r

theorem QJ.wk {X : Cx} {o : Oper} {t t' : T} {σ σ' : Sg} {V : AV} (ht : Wk t' t) (hs : Wk σ' σ) (h : QJ X o t' σ' V) : QJ X o t σ V :=
  fun γ H a w so sm => h γ H a w (fun x hx v hv => so x hx v (by
    cases x with
    | tmp i => exact ht i v hv
    | const c => exact hv
    | func f => exact hv
    | global g => exact hv)) (sm.wk hs)
theorem so_of {w0 : World} {H0 : HF} {B : Nat → Prop} {N : Nat} {D : List Nat} {γ : Ids} {H : HF} {t : T} {σ : Sg} {a : Act} {w : World} (s : St w0 H0 B N D γ H t σ a w) (o : Oper) :
    ∀ x, x ∈ o.op.operands → ∀ v, ge t x = some v → Rep γ H v (a.eval x) := fun _ _ _ hv => ge_sound s.tmp hv
theorem QJ.cast {X : Cx} {o : Oper} {t : T} {σ : Sg} {V V' : AV} (e : V = V') (h : QJ X o t σ V) : QJ X o t σ V' := e ▸ h

section ops
variable {X : Cx} {d : Option Nat} {ty : TypeId} {pos : String} {aft : Array Edge} {g : Option (Nat × Bool)} {t : T} {σ : Sg} {K : T → Sg → Prop}

theorem O.move {x : Operand} {v : AV} (hx : ge t x = some v) : QJ X ⟨d, .move x, ty, pos, aft, g⟩ t σ (v) :=
  QJ.value (by simp) (fun γ H a w so sm => ⟨_, rfl, so _ (by simp [Op.operands, Call.operands]) _ hx⟩)
theorem O.assign {x : Operand} {v : AV} (hx : ge t x = some v) : QJ X ⟨d, .assign x, ty, pos, aft, g⟩ t σ (v) :=
  QJ.value (by simp) (fun γ H a w so sm => ⟨_, rfl, so _ (by simp [Op.operands, Call.operands]) _ hx⟩)

def valueOf : Result Value → Option Value
  | .ok v _ => some v
  | .halt _ _ => none

theorem O.pick {c x y : Operand} {b : Bool} {v : AV} (hc : ge t c = some (.d (.v (.bool b)))) (hx : ge t (if b then x else y) = some v)
    : QJ X ⟨d, .pick c x y, ty, pos, aft, g⟩ t σ (v) :=
  QJ.value (by simp) (fun γ H a w so sm => by
    have h1 := so _ (by simp [Op.operands, Call.operands]) _ hc
    generalize hq : a.eval c = q at h1
    obtain rfl := rep_v h1
    refine ⟨_, ?_, so _ (by cases b <;> simp [Op.operands]) _ hx⟩
    cases b <;> simp [execOp, asBool, hq])
end ops



end Go.Sv
