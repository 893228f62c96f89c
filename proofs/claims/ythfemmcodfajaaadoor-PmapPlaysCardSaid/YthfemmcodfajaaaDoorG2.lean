/- The abstract state of an activation, and what it says of the machine's. -/
import Derived.Test.YthfemmcodfajaaaDoorG1
set_option linter.unusedVariables false
set_option linter.unusedSimpArgs false
namespace Go.Gv
open Go.RowKit
universe u

def look {α : Type u} (i : Nat) : List (Nat × α) → Option α
  | [] => none
  | (j, a) :: r => match Nat.beq i j with | true => some a | false => look i r

theorem look_cons {α : Type u} (i j : Nat) (a : α) (r : List (Nat × α)) : look i ((j, a) :: r) = if i = j then some a else look i r := by
  simp only [look]
  by_cases h : i = j
  · simp [h]
  · have : Nat.beq i j = false := by rw [← Bool.not_eq_true, Nat.beq_eq]; exact h
    simp [this, h]
theorem look_nil {α : Type u} (i : Nat) : look i ([] : List (Nat × α)) = none := rfl
theorem look_append {α : Type u} (i : Nat) : ∀ (l r : List (Nat × α)), look i (l ++ r) = (look i l).or (look i r)
  | [], r => by simp [look]
  | (j, a) :: l, r => by
    rw [List.cons_append, look_cons, look_cons, look_append i l r]
    split <;> simp
theorem look_mem {α : Type u} : ∀ {l : List (Nat × α)} {i : Nat} {a : α}, look i l = some a → (i, a) ∈ l
  | [], i, a, h => by simp [look] at h
  | (j, b) :: r, i, a, h => by
    rw [look_cons] at h
    split at h
    · next e => subst e; simp only [Option.some.injEq] at h; subst h; simp
    · exact List.mem_cons_of_mem _ (look_mem h)
theorem look_filter {α : Type u} {p : Nat × α → Bool} : ∀ {l : List (Nat × α)} {i : Nat} {a : α}, (∀ b, p (i, b) = true) → look i l = some a → look i (l.filter p) = some a
  | [], i, a, _, h => by simp [look] at h
  | (j, b) :: r, i, a, hp, h => by
    rw [look_cons] at h
    split at h
    · next e => subst e; simp only [Option.some.injEq] at h; subst h; rw [List.filter_cons, if_pos (hp b), look_cons, if_pos rfl]
    · next e =>
      rw [List.filter_cons]
      split
      · rw [look_cons, if_neg e]; exact look_filter hp h
      · exact look_filter hp h
/-- A filter on names. -/
theorem look_filterN {α : Type u} {q : Nat → Bool} : ∀ {l : List (Nat × α)} {i : Nat}, look i (l.filter fun p => q p.1) = if q i = true then look i l else none
  | [], i => by simp [look]
  | (j, b) :: r, i => by
    rw [List.filter_cons]
    by_cases hq : q j = true
    · rw [if_pos hq, look_cons, look_cons, look_filterN]
      by_cases e : i = j
      · subst e; simp [hq]
      · rw [if_neg e, if_neg e]
    · rw [if_neg hq, look_filterN, look_cons]
      by_cases e : i = j
      · subst e; simp [hq]
      · rw [if_neg e]

/-! ### Less is known -/
def Wk {α : Type u} (l' l : List (Nat × α)) : Prop := ∀ i a, look i l' = some a → look i l = some a
theorem Wk.nil {α : Type u} (l : List (Nat × α)) : Wk [] l := fun _ _ h => by simp [look] at h
theorem Wk.refl {α : Type u} (l : List (Nat × α)) : Wk l l := fun _ _ h => h
theorem Wk.trans {α : Type u} {a b c : List (Nat × α)} (h : Wk a b) (k : Wk b c) : Wk a c := fun i x hi => k i x (h i x hi)
theorem Wk.cons {α : Type u} {l' l : List (Nat × α)} {i : Nat} {a : α} (h : look i l = some a) (k : Wk l' l) : Wk ((i, a) :: l') l := fun j b hb => by
  rw [look_cons] at hb
  split at hb
  · next e => rw [e]; exact h.trans hb
  · exact k j b hb

/-! ### The world that a call is given -/
/-- A fact on the first g blocks. -/
structure Amb where
  p : World → Prop
  g : Nat
  st : ∀ {w w' : World}, p w → (∀ k, k < g → w'.heap[k]? = w.heap[k]?) → p w'
def Lam (Λ : Amb) (w : World) (B : Nat → Prop) : Prop := Λ.p w ∧ Λ.g ≤ w.heap.size ∧ ∀ b, B b → Λ.g ≤ b

/-- Where the proofs live: every function may be called, however deep; perhaps in a round of a range over a function. -/
def Fr (ro : Option Nat) : Fence := { fn := fun _ => True, depth := none, alive := false, round := ro }
def callOk (P : Program) (f : FuncId) : Prop := ∀ (args : Array Value) (w : World), (callFunc f args).run P w = .ok (.enter f args) w

/-- A function's value is called. -/
def CallV (P : Program) (fv : Value) (vs : List Value) (w : World) (R : Value → World → Prop) : Prop :=
  (∃ (f : Nat) (caps : Array Value), fv = .func (.func f) #[] caps ∧ callOk P f ∧ CallsIn (Fr none) 0 P f (vs.toArray ++ caps) w fun e w' => ∃ v, e = .returned v ∧ R v w') ∨
  (∃ l f tmps assign body, fv = .func (.yield l) #[] #[] ∧ (Instr.yield l vs.toArray).run P w = .ok (.round l f tmps assign body) w ∧ RoundIn (Fr none) 0 P l f tmps assign body w fun e w' => ∃ v, e = .returned v ∧ R v w')

structure HNew (n : Nat) (B : Nat → Prop) (H H' : HF) : Prop where
  c : ∀ b o v, H'.c b o = some v → H.c b o = some v ∨ n ≤ b ∨ B b
  m : ∀ b x, H'.m b = some x → H.m b = some x ∨ n ≤ b ∨ B b
theorem HNew.refl (n : Nat) (B : Nat → Prop) (H : HF) : HNew n B H H := ⟨fun _ _ _ h => .inl h, fun _ _ h => .inl h⟩
structure HOk (H : HF) (w : World) : Prop where
  c : ∀ b o v, H.c b o = some v → w.cell? ⟨b, o, none⟩ = some v
  m : ∀ b es c, H.m b = some (es, c) → w.heap[b]? = some (.map es c)
/-- Nothing of a block holds for good. -/
structure Free (H : HF) (b : Nat) : Prop where
  c : ∀ o, H.c b o = none
  m : H.m b = none

/-- What was there when it began stands, but for the blocks of B. -/
structure Keeps (w0 : World) (B : Nat → Prop) (w : World) : Prop where
  os : w.os = w0.os
  tape : w.tape = w0.tape
  output : w.output = w0.output
  size : w0.heap.size ≤ w.heap.size
  block : ∀ k, k < w0.heap.size → ¬ B k → w.heap[k]? = w0.heap[k]?
theorem Keeps.refl (B : Nat → Prop) (w : World) : Keeps w B w := ⟨rfl, rfl, rfl, Nat.le_refl _, fun _ _ _ => rfl⟩
theorem Keeps.below {w0 w : World} {B : Nat → Prop} (h : Keeps w0 B w) (hB : ∀ k, ¬ B k) : Below w0.heap.size w0 w := ⟨h.os, h.tape, h.output, h.size, fun k hk => h.block k hk (hB k)⟩
theorem Lam.keep {Λ : Amb} {w0 w : World} {B : Nat → Prop} (h : Lam Λ w0 B) (k : Keeps w0 B w) {C : Nat → Prop} (hC : ∀ b, C b → Λ.g ≤ b) : Lam Λ w C :=
  ⟨Λ.st h.1 fun i hi => k.block i (Nat.lt_of_lt_of_le hi h.2.1) fun hb => absurd (h.2.2 i hb) (by omega), Nat.le_trans h.2.1 k.size, hC⟩

/-- What becomes of memory in a call that may touch the blocks of O. -/
structure Stp (w : World) (H : HF) (O : Nat → Prop) (w' : World) (H' : HF) (O' : Nat → Prop) : Prop where
  keep : Keeps w O w'
  hle : HLe H H'
  hnew : HNew w.heap.size O H H'
  hok : HOk H' w'
  own : ∀ b, O' b → O b ∨ w.heap.size ≤ b
  free : ∀ b, O' b → Free H' b

/-- A thing with a memory of its own, and a function's value that turns it. -/
structure Res where
  S : Type
  P : Program
  Λ : Amb
  fv : Value
  ok : S → (Nat → Prop) → HF → World → Prop
  lt : ∀ {s O H w}, ok s O H w → ∀ b, O b → b < w.heap.size
  later : ∀ {s O H H' w w'}, ok s O H w → HLe H H' → w.heap.size ≤ w'.heap.size → (∀ b, O b → w'.heap[b]? = w.heap[b]?) → ok s O H' w'
  pre : S → List AV → Prop
  step : S → List AV → Bool → S → Prop
  run : ∀ {s xs}, pre s xs → ∀ (H : HF) (w : World) (O : Nat → Prop) (vs : List Value), Lam Λ w O → ok s O H w → HOk H w → (∀ b, O b → Free H b) → vs.length = xs.length →
    (∀ (j : Nat) (a : AV) (u : Value), xs[j]? = some a → vs[j]? = some u → ∀ γ, Rep γ H a u) →
    CallV P fv vs w fun v w' => ∃ b s' H' O', v = .bool b ∧ step s xs b s' ∧ ok s' O' H' w' ∧ Stp w H O w' H' O'

/-- What is private: a block whose cells are told; a row that may be written; a map; an object; a thing with a memory of its own. -/
inductive Ent where
  | gone
  | cells (cs : List AV)
  | arr (k : Nat) (xs : List (List D))
  | mp (ag : Bool) (ks : List Value) (vs : List (List D))
  | obj (o : Obj)
  | res (ρ : Res) (s : ρ.S)

abbrev T := List (Nat × AV)
abbrev Sg := List (Nat × Ent)

/-- The blocks of a private thing. -/
def blk (γ : Ids) (i : Nat) : Ent → Nat → Prop
  | .gone, _ => False
  | .cells _, b => b = (γ i).b
  | .arr _ _, b => b = (γ i).b ∧ 0 < (γ i).n
  | .mp _ _ _, b => b = (γ i).b
  | .obj _, b => b = (γ i).b
  | .res _ _, b => (γ i).o b

structure MapRep (H : HF) (ag : Bool) (ks : List Value) (vs : List (List D)) (es : Array MapEntry) (us : Nat → List Value) : Prop where
  l : es.size = ks.length
  l2 : vs.length = ks.length
  k : ∀ (j : Nat) (e : MapEntry), es[j]? = some e → ks[j]? = some e.key ∧ e.val = valAg ag (us j)
  u : ∀ (j : Nat) (cs : List D), vs[j]? = some cs → (us j).length = cs.length
  r : ∀ (j i : Nat) (cs : List D) (a : D) (u : Value), vs[j]? = some cs → cs[i]? = some a → (us j)[i]? = some u → RepD H a u
theorem MapRep.mono {H H' : HF} (hle : HLe H H') {ag : Bool} {ks : List Value} {vs : List (List D)} {es : Array MapEntry} {us : Nat → List Value} (h : MapRep H ag ks vs es us) : MapRep H' ag ks vs es us :=
  ⟨h.l, h.l2, h.k, h.u, fun j i cs a u h1 h2 h3 => (h.r j i cs a u h1 h2 h3).mono hle⟩

def EntOk (γ : Ids) (H : HF) (w : World) (i : Nat) : Ent → Prop
  | .gone => True
  | .cells cs => ∃ (t : TypeId) (us : List Value), w.heap[(γ i).b]? = some (.cells us.toArray t (0, 0)) ∧ us.length = cs.length ∧ ∀ (j : Nat) (a : AV) (u : Value), cs[j]? = some a → us[j]? = some u → Rep γ H a u
  | .arr k xs => xs.length ≤ (γ i).n ∧ (∀ cs, cs ∈ xs → cs.length = k) ∧ (0 < (γ i).n → ∃ (t : TypeId) (us : List Value), w.heap[(γ i).b]? = some (.cells us.toArray t (0, 0)) ∧ us.length = (γ i).n * k ∧
      ∀ (j l : Nat) (cs : List D) (a : D) (u : Value), xs[j]? = some cs → cs[l]? = some a → us[j * k + l]? = some u → RepD H a u)
  | .mp ag ks vs => ∃ (es : Array MapEntry) (clock : Nat) (us : Nat → List Value), w.heap[(γ i).b]? = some (.map es clock) ∧ MapRep H ag ks vs es us
  | .obj o => w.heap[(γ i).b]? = some o
  | .res ρ s => ρ.ok s (γ i).o H w

structure Mem (w0 : World) (H0 : HF) (B : Nat → Prop) (γ : Ids) (H : HF) (σ : Sg) (w : World) : Prop where
  keep : Keeps w0 B w
  hle : HLe H0 H
  hnew : HNew w0.heap.size B H0 H
  hok : HOk H w
  ent : ∀ i e, look i σ = some e → EntOk γ H w i e
  free : ∀ i e, look i σ = some e → ∀ b, blk γ i e b → Free H b
  fresh : ∀ i e, look i σ = some e → ∀ b, blk γ i e b → w0.heap.size ≤ b ∨ B b
  apart : ∀ i e j e' b, look i σ = some e → look j σ = some e' → blk γ i e b → blk γ j e' b → i = j

/-- The blocks of private things. -/
def blks (γ : Ids) (σ : Sg) (b : Nat) : Prop := ∃ i e, look i σ = some e ∧ blk γ i e b

def TmpOk (γ : Ids) (H : HF) (t : T) (tm : Array Value) : Prop := ∀ i a, look i t = some a → ∃ u, tm[i]? = some u ∧ Rep γ H a u

/-- An activation: the program, what holds of its world, its round; its first world, what it may touch of that; how many temporaries it has; which names are bound to stay. -/
structure Cx where
  P : Program
  Λ : Amb
  ro : Option Nat
  w0 : World
  H0 : HF
  B : Nat → Prop
  N : Nat
  pin : List Nat
  g0 : Ids

/-- The marks of ranges over functions lie untouched. -/
def Marked (w0 : World) (γ : Ids) (σ : Sg) (w : World) (ms : List Nat) : Prop :=
  ms.Nodup ∧ ∀ b, b ∈ ms → w.heap[b]? = some (.deferred (some [])) ∧ w0.heap.size ≤ b ∧ ¬ blks γ σ b

structure St (X : Cx) (γ : Ids) (H : HF) (t : T) (σ : Sg) (a : Act) (w : World) : Prop where
  lam : Lam X.Λ X.w0 X.B
  round : ∀ l, X.ro = some l → (∃ r, X.w0.heap[l]? = some (.loop r)) ∧ ¬ X.B l
  defers : ∃ ms : List Nat, a.defers = (ms.map fun b => { target := .collected b, args := #[] }) ∧ Marked X.w0 γ σ w ms
  size : a.tmps.size = X.N
  pinned : ∀ i, i ∈ X.pin → γ i = X.g0 i
  tmp : TmpOk γ H t a.tmps
  mem : Mem X.w0 X.H0 X.B γ H σ w

/-! ### Laws of memory -/
theorem lt_of_heap {w : World} {b : Nat} {o : Obj} (h : w.heap[b]? = some o) : b < w.heap.size := (Array.getElem?_eq_some_iff.1 h).1
theorem lt_of_cell {w : World} {b o : Nat} {v : Value} (h : w.cell? ⟨b, o, none⟩ = some v) : b < w.heap.size := by
  unfold World.cell? at h
  split at h
  · next hb => exact lt_of_heap hb
  · cases h

theorem EntOk.lt {γ : Ids} {H : HF} {w : World} {i : Nat} {e : Ent} (h : EntOk γ H w i e) {b : Nat} (hb : blk γ i e b) : b < w.heap.size := by
  cases e with
  | gone => exact hb.elim
  | cells cs => obtain ⟨t, us, h1, _⟩ := h; cases hb; exact lt_of_heap h1
  | arr k xs => obtain ⟨t, us, h1, _⟩ := h.2.2 hb.2; cases hb.1; exact lt_of_heap h1
  | mp ag ks vs => obtain ⟨es, c, us, h1, _⟩ := h; cases hb; exact lt_of_heap h1
  | obj o => cases hb; exact lt_of_heap h
  | res ρ s => exact ρ.lt h b hb

/-- What is private stays as it was while its blocks stay. -/
theorem EntOk.later {γ : Ids} {H H' : HF} {w w' : World} {i : Nat} {e : Ent} (h : EntOk γ H w i e) (hle : HLe H H') (hs : w.heap.size ≤ w'.heap.size) (hb : ∀ b, blk γ i e b → w'.heap[b]? = w.heap[b]?) : EntOk γ H' w' i e := by
  cases e with
  | gone => trivial
  | cells cs =>
    obtain ⟨t, us, h1, h2, h3⟩ := h
    exact ⟨t, us, (hb _ rfl).trans h1, h2, fun j a u x y => (h3 j a u x y).mono hle⟩
  | arr k xs =>
    refine ⟨h.1, h.2.1, fun hr => ?_⟩
    obtain ⟨t, us, h1, h2, h3⟩ := h.2.2 hr
    exact ⟨t, us, (hb _ ⟨rfl, hr⟩).trans h1, h2, fun j l cs a u x y z => (h3 j l cs a u x y z).mono hle⟩
  | mp ag ks vs =>
    obtain ⟨es, c, us, h1, h2⟩ := h
    exact ⟨es, c, us, (hb _ rfl).trans h1, h2.mono hle⟩
  | obj o => exact (hb _ rfl).trans h
  | res ρ s => exact ρ.later h hle hs hb

def entHas (i : Nat) : Ent → Bool
  | .cells cs => cs.any (has2 i)
  | _ => false

theorem blk_congr {γ γ' : Ids} {i : Nat} (h : γ i = γ' i) (e : Ent) : blk γ i e = blk γ' i e := by
  funext b; cases e <;> simp [blk, h]
theorem EntOk.agree {γ γ' : Ids} {H : HF} {w : World} {i : Nat} {e : Ent} (h : EntOk γ H w i e) (hi : γ i = γ' i) (hg : ∀ j, entHas j e = true → γ j = γ' j) : EntOk γ' H w i e := by
  cases e with
  | gone => trivial
  | cells cs =>
    simp only [EntOk, ← hi] at h ⊢
    obtain ⟨t, us, h1, h2, h3⟩ := h
    exact ⟨t, us, h1, h2, fun j a u x y => (h3 j a u x y).agree fun l hl => hg l (by simp only [entHas, List.any_eq_true]; exact ⟨a, mem_of_get x, hl⟩)⟩
  | arr k xs => simpa only [EntOk, ← hi] using h
  | mp ag ks vs => simpa only [EntOk, ← hi] using h
  | obj o => simpa only [EntOk, ← hi] using h
  | res ρ s => simpa only [EntOk, ← hi] using h

theorem Free.later {H H' : HF} {b n : Nat} {C : Nat → Prop} (h : Free H b) (k : HNew n C H H') (hn : b < n) (hc : ¬ C b) : Free H' b := by
  refine ⟨fun o => ?_, ?_⟩
  · cases hx : H'.c b o with
    | none => rfl
    | some v =>
      rcases k.c b o v hx with h1 | h1 | h1
      · rw [h.c] at h1; cases h1
      · omega
      · exact absurd h1 hc
  · cases hx : H'.m b with
    | none => rfl
    | some v =>
      rcases k.m b v hx with h1 | h1 | h1
      · rw [h.m] at h1; cases h1
      · omega
      · exact absurd h1 hc

theorem Mem.wk {w0 w : World} {H0 : HF} {B : Nat → Prop} {γ : Ids} {H : HF} {σ σ' : Sg} (h : Mem w0 H0 B γ H σ w) (k : Wk σ' σ) : Mem w0 H0 B γ H σ' w :=
  ⟨h.keep, h.hle, h.hnew, h.hok, fun i e hi => h.ent i e (k i e hi), fun i e hi => h.free i e (k i e hi), fun i e hi => h.fresh i e (k i e hi), fun i e j e' b hi hj => h.apart i e j e' b (k i e hi) (k j e' hj)⟩
theorem TmpOk.wk {γ : Ids} {H : HF} {t t' : T} {tm : Array Value} (h : TmpOk γ H t tm) (k : Wk t' t) : TmpOk γ H t' tm := fun i a hi => h i a (k i a hi)
theorem TmpOk.mono {γ : Ids} {H H' : HF} (hle : HLe H H') {t : T} {tm : Array Value} (h : TmpOk γ H t tm) : TmpOk γ H' t tm := fun i a hi => let ⟨u, hu, r⟩ := h i a hi; ⟨u, hu, r.mono hle⟩
theorem blks.wk {γ : Ids} {σ σ' : Sg} (k : Wk σ' σ) {b : Nat} (h : blks γ σ' b) : blks γ σ b := let ⟨i, e, hi, hb⟩ := h; ⟨i, e, k i e hi, hb⟩
theorem Marked.wk {w0 w : World} {γ : Ids} {σ σ' : Sg} {ms : List Nat} (h : Marked w0 γ σ w ms) (k : Wk σ' σ) : Marked w0 γ σ' w ms := ⟨h.1, fun b hb => ⟨(h.2 b hb).1, (h.2 b hb).2.1, fun x => (h.2 b hb).2.2 (x.wk k)⟩⟩
theorem St.wk {X : Cx} {γ : Ids} {H : HF} {t t' : T} {σ σ' : Sg} {a : Act} {w : World} (s : St X γ H t σ a w) (ht : Wk t' t) (hs : Wk σ' σ) : St X γ H t' σ' a w :=
  ⟨s.lam, s.round, let ⟨ms, h1, h2⟩ := s.defers; ⟨ms, h1, h2.wk hs⟩, s.size, s.pinned, s.tmp.wk ht, s.mem.wk hs⟩

theorem Keeps.trans {w0 w w' : World} {B C : Nat → Prop} (h : Keeps w0 B w) (k : Keeps w C w') (hC : ∀ b, C b → w0.heap.size ≤ b ∨ B b) : Keeps w0 B w' :=
  ⟨k.os.trans h.os, k.tape.trans h.tape, k.output.trans h.output, Nat.le_trans h.size k.size, fun i hi hb => (k.block i (Nat.lt_of_lt_of_le hi h.size) fun x => (hC i x).elim (fun y => by omega) hb).trans (h.block i hi hb)⟩
theorem HNew.trans {n m : Nat} {B C : Nat → Prop} {H H' H'' : HF} (h : HNew n B H H') (k : HNew m C H' H'') (hm : n ≤ m) (hC : ∀ b, C b → n ≤ b ∨ B b) : HNew n B H H'' :=
  ⟨fun b o v hv => by
    rcases k.c b o v hv with h1 | h1 | h1
    · exact h.c b o v h1
    · exact .inr (.inl (by omega))
    · exact .inr (hC b h1),
   fun b v hv => by
    rcases k.m b v hv with h1 | h1 | h1
    · exact h.m b v h1
    · exact .inr (.inl (by omega))
    · exact .inr (hC b h1)⟩

/-- **A step that touches some private things, and makes new ones.** -/
theorem Mem.join {w0 w w' : World} {H0 H H' : HF} {B C : Nat → Prop} {γ γ' : Ids} {σ σ' σr : Sg} (h : Mem w0 H0 B γ H σ w) (k : Mem w H C γ' H' σ' w')
    (hC : ∀ b, C b → ∃ i e, look i σ = some e ∧ look i σr = none ∧ blk γ i e b)
    (hr : Wk σr σ) (hd : ∀ i e, look i σr = some e → look i σ' = none) (hg : ∀ i e, look i σr = some e → γ i = γ' i ∧ ∀ j, entHas j e = true → γ j = γ' j) :
    Mem w0 H0 B γ' H' (σ' ++ σr) w' := by
  have hCB : ∀ b, C b → w0.heap.size ≤ b ∨ B b := fun b hb => let ⟨i, e, h1, _, h3⟩ := hC b hb; h.fresh i e h1 b h3
  have hrC : ∀ i e b, look i σr = some e → blk γ i e b → ¬ C b := fun i e b hi hb hc => by
    obtain ⟨j, f, h1, h2, h3⟩ := hC b hc
    have := h.apart i e j f b (hr i e hi) h1 hb h3
    subst this; rw [hi] at h2; cases h2
  have cas : ∀ i e, look i (σ' ++ σr) = some e → look i σ' = some e ∨ (look i σr = some e ∧ look i σ' = none) := fun i e hi => by
    rw [look_append] at hi
    cases hx : look i σ' with
    | some f => rw [hx] at hi; simp only [Option.some_or, Option.or_some] at hi; exact .inl hi
    | none => rw [hx] at hi; simp only [Option.none_or] at hi; exact .inr ⟨hi, rfl⟩
  have hlt : ∀ i e b, look i σr = some e → blk γ i e b → b < w.heap.size := fun i e b hi hb => (h.ent i e (hr i e hi)).lt hb
  refine ⟨h.keep.trans k.keep hCB, h.hle.trans k.hle, h.hnew.trans k.hnew h.keep.size hCB, k.hok, fun i e hi => ?_, fun i e hi b hb => ?_, fun i e hi b hb => ?_, fun i e j e' b hi hj hb hb' => ?_⟩
  · rcases cas i e hi with h1 | ⟨h1, _⟩
    · exact k.ent i e h1
    · exact ((h.ent i e (hr i e h1)).later k.hle k.keep.size fun b hb => k.keep.block b (hlt i e b h1 hb) (hrC i e b h1 hb)).agree (hg i e h1).1 (hg i e h1).2
  · rcases cas i e hi with h1 | ⟨h1, _⟩
    · exact k.free i e h1 b hb
    · rw [← blk_congr (hg i e h1).1] at hb
      exact (h.free i e (hr i e h1) b hb).later k.hnew (hlt i e b h1 hb) (hrC i e b h1 hb)
  · rcases cas i e hi with h1 | ⟨h1, _⟩
    · rcases k.fresh i e h1 b hb with h2 | h2
      · exact .inl (Nat.le_trans h.keep.size h2)
      · exact hCB b h2
    · rw [← blk_congr (hg i e h1).1] at hb
      exact h.fresh i e (hr i e h1) b hb
  · rcases cas i e hi with h1 | ⟨h1, h1'⟩ <;> rcases cas j e' hj with h2 | ⟨h2, h2'⟩
    · exact k.apart i e j e' b h1 h2 hb hb'
    · exfalso
      rw [← blk_congr (hg j e' h2).1] at hb'
      rcases k.fresh i e h1 b hb with h3 | h3
      · have := hlt j e' b h2 hb'; omega
      · exact hrC j e' b h2 hb' h3
    · exfalso
      rw [← blk_congr (hg i e h1).1] at hb
      rcases k.fresh j e' h2 b hb' with h3 | h3
      · have := hlt i e b h1 hb; omega
      · exact hrC i e b h1 hb h3
    · rw [← blk_congr (hg i e h1).1] at hb
      rw [← blk_congr (hg j e' h2).1] at hb'
      exact h.apart i e j e' b (hr i e h1) (hr j e' h2) hb hb'

/-- The marks stay, too. -/
theorem Marked.join {w0 w w' : World} {H0 H H' : HF} {B C : Nat → Prop} {γ γ' : Ids} {σ σ' σr : Sg} {ms : List Nat} (m : Marked w0 γ σ w ms) (h : Mem w0 H0 B γ H σ w) (k : Mem w H C γ' H' σ' w')
    (hC : ∀ b, C b → ∃ i e, look i σ = some e ∧ look i σr = none ∧ blk γ i e b)
    (hr : Wk σr σ) (hd : ∀ i e, look i σr = some e → look i σ' = none) (hg : ∀ i e, look i σr = some e → γ i = γ' i ∧ ∀ j, entHas j e = true → γ j = γ' j) : Marked w0 γ' (σ' ++ σr) w' ms := by
  refine ⟨m.1, fun b hb => ?_⟩
  obtain ⟨m1, m2, m3⟩ := m.2 b hb
  have hnC : ¬ C b := fun hc => by obtain ⟨i, e, h1, _, h3⟩ := hC b hc; exact m3 ⟨i, e, h1, h3⟩
  refine ⟨(k.keep.block b (lt_of_heap m1) hnC).trans m1, m2, ?_⟩
  rintro ⟨i, e, hi, hbk⟩
  rw [look_append] at hi
  cases hx : look i σ' with
  | some f =>
    rw [hx, Option.some_or] at hi
    obtain rfl := Option.some.inj hi
    rcases k.fresh i f hx b hbk with h1 | h1
    · have := lt_of_heap m1; omega
    · exact hnC h1
  | none =>
    rw [hx] at hi; simp only [Option.none_or] at hi
    rw [← blk_congr (hg i e hi).1] at hbk
    exact m3 ⟨i, e, hr i e hi, hbk⟩

/-- A state of one's own. -/
theorem Mem.self {w0 w : World} {H0 H : HF} {B : Nat → Prop} {γ : Ids} {σ : Sg} (h : Mem w0 H0 B γ H σ w) : Mem w H (blks γ σ) γ H σ w :=
  ⟨Keeps.refl _ _, HLe.refl _, HNew.refl _ _ _, h.hok, h.ent, h.free, fun i e hi b hb => .inr ⟨i, e, hi, hb⟩, h.apart⟩
theorem Mem.refl {w0 w : World} {H0 H : HF} {B : Nat → Prop} {γ : Ids} {σ : Sg} (h : Mem w0 H0 B γ H σ w) (γ' : Ids) : Mem w H (fun _ => False) γ' H [] w :=
  ⟨Keeps.refl _ _, HLe.refl _, HNew.refl _ _ _, h.hok, fun i e h => by simp [look] at h, fun i e h => by simp [look] at h, fun i e h => by simp [look] at h, fun i e j e' b h => by simp [look] at h⟩

/-- A drawn world is the same memory. -/
theorem EntOk.drew {γ : Ids} {H : HF} {w : World} {i : Nat} {e : Ent} (h : EntOk γ H w i e) : EntOk γ H w.drew i e := h.later (HLe.refl _) (Nat.le_refl _) fun _ _ => rfl
theorem Mem.drew {w0 w : World} {H0 H : HF} {B : Nat → Prop} {γ : Ids} {σ : Sg} (h : Mem w0 H0 B γ H σ w) : Mem w0 H0 B γ H σ w.drew :=
  ⟨⟨h.keep.os, h.keep.tape, h.keep.output, h.keep.size, h.keep.block⟩, h.hle, h.hnew, ⟨h.hok.c, h.hok.m⟩, fun i e hi => (h.ent i e hi).drew, h.free, h.fresh, h.apart⟩

end Go.Gv
