/- The abstract values of a proof: what a value in memory stands for, whatever addresses it has. -/
import Derived.CallsIn
import Derived.RangeFuncCalls
import Derived.RangeFuncLeaves
import Derived.RangeFuncNested
import Derived.Laws.Sem
import Derived.Laws.World
import Derived.Below
set_option linter.unusedVariables false
set_option linter.unusedSimpArgs false
namespace Go.Gv
universe u

/-- Data that nobody writes any more. -/
inductive D where
  | v (x : Value)
  | sl (k : Nat) (xs : List (List D))
  | ptr (cs : List D)
  | fn (f : FuncId) (caps : List D)
  | ifc (t : TypeId) (x : D)
  | ifa (t : TypeId) (cs : List D)
  | mp (ag : Bool) (ks : List Value) (vs : List (List D))

/-- What a temporary or a private cell holds. -/
inductive AV where
  | d (x : D)
  | full (k : Nat) (xs : List (List D))
  | box (i off : Nat)
  | boxX (i off : Nat)
  | arr (i k n : Nat)
  | fnp (f : FuncId) (caps : List AV)
  | agg (cs : List AV)
  | tup (vs : List AV)
  | mp (i : Nat)
  | junk

/-- What holds for good: cells, and maps. -/
structure HF where
  c : Nat → Nat → Option Value
  m : Nat → Option (Array MapEntry × Nat)
/-- Where a private thing lies: its block, how long its row is, the blocks of one that has many. -/
structure Pl where
  b : Nat
  n : Nat
  o : Nat → Prop
/-- Private things by number. -/
abbrev Ids := Nat → Pl

def valAg (ag : Bool) (us : List Value) : Value := match ag with
  | true => .agg us.toArray
  | false => us.headD undef

/-- A value stands for data, given what holds for good. -/
inductive RepD (H : HF) : D → Value → Prop where
  | v (x : Value) (h : x.oneCell' = true) : RepD H (.v x) x
  | fn (f : FuncId) (cs : List D) (us : List Value) (hl : us.length = cs.length) (h : ∀ (j : Nat) (a : D) (u : Value), cs[j]? = some a → us[j]? = some u → RepD H a u) : RepD H (.fn f cs) (.func (.func f) #[] us.toArray)
  | ifc (t : TypeId) (x : D) (u : Value) (h : RepD H x u) : RepD H (.ifc t x) (.iface t u)
  | ifa (t : TypeId) (cs : List D) (us : List Value) (hl : us.length = cs.length) (h : ∀ (j : Nat) (a : D) (u : Value), cs[j]? = some a → us[j]? = some u → RepD H a u) : RepD H (.ifa t cs) (.iface t (.agg us.toArray))
  | ptr (cs : List D) (b o : Nat) (us : Nat → Value) (hc : ∀ j, j < cs.length → H.c b (o + j) = some (us j)) (h : ∀ (j : Nat) (a : D), cs[j]? = some a → RepD H a (us j)) :
      RepD H (.ptr cs) (.pointer (some ⟨b, o, none⟩))
  | sl (k : Nat) (xs : List (List D)) (A : Option Addr) (c b o : Nat) (us : Nat → Nat → Value) (hk : ∀ cs, cs ∈ xs → cs.length = k)
      (hn : xs.length ≤ c) (hc : xs.length ≤ 9223372036854775807) (hA : 0 < xs.length → A = some ⟨b, o, none⟩) (hH : ∀ j i, j < xs.length → i < k → H.c b (o + j * k + i) = some (us j i))
      (h : ∀ (j i : Nat) (cs : List D) (a : D), xs[j]? = some cs → cs[i]? = some a → RepD H a (us j i)) : RepD H (.sl k xs) (.slice A xs.length c)
  | mp (ag : Bool) (ks : List Value) (vs : List (List D)) (b : Nat) (es : Array MapEntry) (clock : Nat) (us : Nat → List Value) (hm : H.m b = some (es, clock)) (hl : es.size = ks.length) (hl2 : vs.length = ks.length)
      (hk : ∀ (j : Nat) (e : MapEntry), es[j]? = some e → ks[j]? = some e.key ∧ e.val = valAg ag (us j)) (hu : ∀ (j : Nat) (cs : List D), vs[j]? = some cs → (us j).length = cs.length)
      (h : ∀ (j i : Nat) (cs : List D) (a : D) (u : Value), vs[j]? = some cs → cs[i]? = some a → (us j)[i]? = some u → RepD H a u) : RepD H (.mp ag ks vs) (.map (some b))

inductive Rep (γ : Ids) (H : HF) : AV → Value → Prop where
  | junk (u : Value) : Rep γ H .junk u
  | d (x : D) (u : Value) (h : RepD H x u) : Rep γ H (.d x) u
  | full (k : Nat) (xs : List (List D)) (A : Option Addr) (h : RepD H (.sl k xs) (.slice A xs.length xs.length)) : Rep γ H (.full k xs) (.slice A xs.length xs.length)
  | agg (cs : List AV) (us : List Value) (hl : us.length = cs.length) (h : ∀ (j : Nat) (a : AV) (u : Value), cs[j]? = some a → us[j]? = some u → Rep γ H a u) : Rep γ H (.agg cs) (.agg us.toArray)
  | tup (cs : List AV) (us : List Value) (hl : us.length = cs.length) (h : ∀ (j : Nat) (a : AV) (u : Value), cs[j]? = some a → us[j]? = some u → Rep γ H a u) : Rep γ H (.tup cs) (.tuple us.toArray)
  | fnp (f : FuncId) (cs : List AV) (us : List Value) (hl : us.length = cs.length) (h : ∀ (j : Nat) (a : AV) (u : Value), cs[j]? = some a → us[j]? = some u → Rep γ H a u) : Rep γ H (.fnp f cs) (.func (.func f) #[] us.toArray)
  | box (i off : Nat) : Rep γ H (.box i off) (.pointer (some ⟨(γ i).b, off, none⟩))
  | boxX (i off : Nat) : Rep γ H (.boxX i off) (.pointer (some ⟨(γ i).b, off, none⟩))
  | mp (i : Nat) : Rep γ H (.mp i) (.map (some (γ i).b))
  | arr (i k n : Nat) (A : Option Addr) (hn : n ≤ (γ i).n) (hA : 0 < (γ i).n → A = some ⟨(γ i).b, 0, none⟩) : Rep γ H (.arr i k n) (.slice A n (γ i).n)

structure HLe (H H' : HF) : Prop where
  c : ∀ b o v, H.c b o = some v → H'.c b o = some v
  m : ∀ b x, H.m b = some x → H'.m b = some x
theorem HLe.refl (H : HF) : HLe H H := ⟨fun _ _ _ h => h, fun _ _ h => h⟩
theorem HLe.trans {A B C : HF} (h : HLe A B) (k : HLe B C) : HLe A C := ⟨fun b o v x => k.c b o v (h.c b o v x), fun b x y => k.m b x (h.m b x y)⟩

theorem RepD.mono {H H' : HF} (hle : HLe H H') {a : D} {u : Value} (r : RepD H a u) : RepD H' a u := by
  induction r with
  | v x h => exact .v x h
  | fn f cs us hl _ ih => exact .fn f cs us hl ih
  | ifc t x u _ ih => exact .ifc t x u ih
  | ifa t cs us hl _ ih => exact .ifa t cs us hl ih
  | ptr cs b o us hc _ ih => exact .ptr cs b o us (fun j hj => hle.c _ _ _ (hc j hj)) ih
  | sl k xs A c b o us hk hn hc hA hH _ ih => exact .sl k xs A c b o us hk hn hc hA (fun j i hj hi => hle.c _ _ _ (hH j i hj hi)) ih
  | mp ag ks vs b es clock us hm hl hl2 hk hu _ ih => exact .mp ag ks vs b es clock us (hle.m _ _ hm) hl hl2 hk hu ih

theorem Rep.mono {γ : Ids} {H H' : HF} (hle : HLe H H') {a : AV} {u : Value} (r : Rep γ H a u) : Rep γ H' a u := by
  induction r with
  | junk u => exact .junk u
  | d x u h => exact .d x u (h.mono hle)
  | full k xs A h => exact .full k xs A (h.mono hle)
  | agg cs us hl _ ih => exact .agg cs us hl ih
  | tup cs us hl _ ih => exact .tup cs us hl ih
  | fnp f cs us hl _ ih => exact .fnp f cs us hl ih
  | box i off => exact .box i off
  | boxX i off => exact .boxX i off
  | mp i => exact .mp i
  | arr i k n A hn hA => exact .arr i k n A hn hA

theorem mem_of_get {α : Type u} {l : List α} {j : Nat} {a : α} (h : l[j]? = some a) : a ∈ l := List.mem_of_getElem? h

/-! ### Does a value name the private thing i? -/
def has0 (i : Nat) : AV → Bool
  | .d _ => false
  | .full _ _ => false
  | .junk => false
  | .box j _ => Nat.beq i j
  | .boxX j _ => Nat.beq i j
  | .arr j _ _ => Nat.beq i j
  | .mp j => Nat.beq i j
  | _ => true
def has1 (i : Nat) : AV → Bool
  | .agg cs => cs.any (has0 i)
  | .tup cs => cs.any (has0 i)
  | .fnp _ cs => cs.any (has0 i)
  | a => has0 i a
def has2 (i : Nat) : AV → Bool
  | .agg cs => cs.any (has1 i)
  | .tup cs => cs.any (has1 i)
  | .fnp _ cs => cs.any (has1 i)
  | a => has1 i a

theorem any_get {α : Type} {f : α → Bool} {l : List α} (h : l.any f = false) {j : Nat} {a : α} (ha : l[j]? = some a) : f a = false := by
  have := List.any_eq_false.1 h a (mem_of_get ha)
  simpa using this

/-- Two tellings of where private things lie agree on what a value names. -/
theorem Rep.agree0 {γ γ' : Ids} {H : HF} {a : AV} {u : Value} (hg : ∀ i, has0 i a = true → γ i = γ' i) (hx : ∀ cs, a ≠ .agg cs ∧ a ≠ .tup cs ∧ ∀ f, a ≠ .fnp f cs) (r : Rep γ H a u) : Rep γ' H a u := by
  cases r with
  | junk => exact .junk _
  | d x u h => exact .d x u h
  | full k xs A h => exact .full k xs A h
  | agg cs => exact absurd rfl (hx cs).1
  | tup cs => exact absurd rfl (hx cs).2.1
  | fnp f cs => exact absurd rfl ((hx cs).2.2 f)
  | box i off => rw [hg i (by simp [has0])]; exact .box i off
  | boxX i off => rw [hg i (by simp [has0])]; exact .boxX i off
  | mp i => rw [hg i (by simp [has0])]; exact .mp i
  | arr i k n A hn hA => have := hg i (by simp [has0]); rw [this] at hn hA ⊢; exact .arr i k n A hn hA

theorem Rep.agreeA {γ γ' : Ids} {H : HF} {a : AV} {u : Value} (r : Rep γ H a u) : (∀ i, has0 i a = true → γ i = γ' i) → Rep γ' H a u := by
  induction r with
  | junk => exact fun _ => .junk _
  | d x u h => exact fun _ => .d x u h
  | full k xs A h => exact fun _ => .full k xs A h
  | agg cs us hl _ ih => exact fun h => .agg cs us hl fun j a u h1 h2 => ih j a u h1 h2 fun i hi => h i rfl
  | tup cs us hl _ ih => exact fun h => .tup cs us hl fun j a u h1 h2 => ih j a u h1 h2 fun i hi => h i rfl
  | fnp f cs us hl _ ih => exact fun h => .fnp f cs us hl fun j a u h1 h2 => ih j a u h1 h2 fun i hi => h i rfl
  | box i off => exact fun hg => by rw [hg i (by simp [has0])]; exact .box i off
  | boxX i off => exact fun hg => by rw [hg i (by simp [has0])]; exact .boxX i off
  | mp i => exact fun hg => by rw [hg i (by simp [has0])]; exact .mp i
  | arr i k n A hn hA => exact fun hg => by have := hg i (by simp [has0]); rw [this] at hn hA ⊢; exact .arr i k n A hn hA
theorem Rep.agree1 {γ γ' : Ids} {H : HF} {a : AV} {u : Value} (hg : ∀ i, has1 i a = true → γ i = γ' i) (r : Rep γ H a u) : Rep γ' H a u := by
  cases r with
  | agg cs us hl hr => exact .agg cs us hl fun j a u h1 h2 => (hr j a u h1 h2).agreeA fun i hi => hg i (by simp only [has1, List.any_eq_true]; exact ⟨a, mem_of_get h1, hi⟩)
  | tup cs us hl hr => exact .tup cs us hl fun j a u h1 h2 => (hr j a u h1 h2).agreeA fun i hi => hg i (by simp only [has1, List.any_eq_true]; exact ⟨a, mem_of_get h1, hi⟩)
  | fnp f cs us hl hr => exact .fnp f cs us hl fun j a u h1 h2 => (hr j a u h1 h2).agreeA fun i hi => hg i (by simp only [has1, List.any_eq_true]; exact ⟨a, mem_of_get h1, hi⟩)
  | junk => exact .junk _
  | d x u h => exact .d x u h
  | full k xs A h => exact .full k xs A h
  | box i off => exact (Rep.box i off).agreeA hg
  | boxX i off => exact (Rep.boxX i off).agreeA hg
  | mp i => exact (Rep.mp i).agreeA hg
  | arr i k n A hn hA => exact (Rep.arr i k n A hn hA).agreeA hg
theorem Rep.agree {γ γ' : Ids} {H : HF} {a : AV} {u : Value} (hg : ∀ i, has2 i a = true → γ i = γ' i) (r : Rep γ H a u) : Rep γ' H a u := by
  cases r with
  | agg cs us hl hr => exact .agg cs us hl fun j a u h1 h2 => (hr j a u h1 h2).agree1 fun i hi => hg i (by simp only [has2, List.any_eq_true]; exact ⟨a, mem_of_get h1, hi⟩)
  | tup cs us hl hr => exact .tup cs us hl fun j a u h1 h2 => (hr j a u h1 h2).agree1 fun i hi => hg i (by simp only [has2, List.any_eq_true]; exact ⟨a, mem_of_get h1, hi⟩)
  | fnp f cs us hl hr => exact .fnp f cs us hl fun j a u h1 h2 => (hr j a u h1 h2).agree1 fun i hi => hg i (by simp only [has2, List.any_eq_true]; exact ⟨a, mem_of_get h1, hi⟩)
  | junk => exact .junk _
  | d x u h => exact .d x u h
  | full k xs A h => exact .full k xs A h
  | box i off => exact (Rep.box i off).agreeA hg
  | boxX i off => exact (Rep.boxX i off).agreeA hg
  | mp i => exact (Rep.mp i).agreeA hg
  | arr i k n A hn hA => exact (Rep.arr i k n A hn hA).agreeA hg

/-! ### Values that name nothing private -/
def AV.isD : AV → Bool
  | .d _ => true
  | .full _ _ => true
  | _ => false
def AV.isD1 : AV → Bool
  | .agg cs => cs.all AV.isD
  | a => a.isD
def AV.open : AV → Bool
  | .agg cs => cs.all AV.isD1
  | .tup vs => vs.all AV.isD1
  | a => a.isD

theorem has0_isD {i : Nat} {a : AV} (h : a.isD = true) : has0 i a = false := by cases a <;> simp_all [AV.isD, has0]
theorem has1_isD1 {i : Nat} {a : AV} (h : a.isD1 = true) : has1 i a = false := by
  cases a with
  | agg cs =>
    simp only [AV.isD1, List.all_eq_true] at h
    simp only [has1, List.any_eq_false]
    intro x hx; simp [has0_isD (h x hx)]
  | _ => simp_all [AV.isD1, AV.isD, has1, has0]
theorem has2_open {i : Nat} {a : AV} (h : a.open = true) : has2 i a = false := by
  cases a with
  | agg cs =>
    simp only [AV.open, List.all_eq_true] at h
    simp only [has2, List.any_eq_false]
    intro x hx; simp [has1_isD1 (h x hx)]
  | tup cs =>
    simp only [AV.open, List.all_eq_true] at h
    simp only [has2, List.any_eq_false]
    intro x hx; simp [has1_isD1 (h x hx)]
  | _ => simp_all [AV.open, AV.isD, has2, has1, has0]
theorem Rep.free {γ γ' : Ids} {H : HF} {a : AV} {u : Value} (r : Rep γ H a u) (h : a.open = true) : Rep γ' H a u := r.agree fun i hi => by rw [has2_open h] at hi; cases hi

end Go.Gv
