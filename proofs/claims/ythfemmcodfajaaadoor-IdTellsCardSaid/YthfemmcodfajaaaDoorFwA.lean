/- The abstract values of a proof: what a value in memory stands for, whatever addresses it has. -/
import Derived.CallsIn
import Derived.RangeFuncCalls
import Derived.RangeFuncLeaves
import Derived.Laws.Sem
import Derived.Laws.World
import Derived.Below
set_option linter.unusedVariables false
set_option linter.unusedSimpArgs false
namespace Go.Sv

/-- Data that nobody writes any more. -/
inductive D where
  | v (x : Value)
  | sl (k : Nat) (xs : List (List D))
  | ptr (cs : List D)
  | fn (f : FuncId) (caps : List D)
  | ifc (t : TypeId) (x : D)
  | ifa (t : TypeId) (cs : List D)

/-- Who may append to a slice in place: it is full; or the row's owner. -/
inductive Own where
  | full
  | row (i : Nat)

/-- What a temporary or a private cell holds. -/
inductive AV where
  | d (x : D)
  | own (o : Own) (k : Nat) (xs : List (List D))
  | box (i off : Nat)
  | arr (i k n : Nat)
  | fnp (f : FuncId) (caps : List AV)
  | agg (cs : List AV)
  | tup (vs : List AV)
  | mp (i : Nat)
  | junk

abbrev HF := Nat → Nat → Option Value
abbrev Ids := Nat → Nat × Nat

/-- A value stands for data, given the cells that hold for good. -/
inductive RepD (H : HF) : D → Value → Prop where
  | v (x : Value) (h : x.oneCell' = true) : RepD H (.v x) x
  | fn (f : FuncId) (cs : List D) (us : List Value) (hl : us.length = cs.length) (h : ∀ (j : Nat) (a : D) (u : Value), cs[j]? = some a → us[j]? = some u → RepD H a u) : RepD H (.fn f cs) (.func (.func f) #[] us.toArray)
  | ifc (t : TypeId) (x : D) (u : Value) (h : RepD H x u) : RepD H (.ifc t x) (.iface t u)
  | ifa (t : TypeId) (cs : List D) (us : List Value) (hl : us.length = cs.length) (h : ∀ (j : Nat) (a : D) (u : Value), cs[j]? = some a → us[j]? = some u → RepD H a u) : RepD H (.ifa t cs) (.iface t (.agg us.toArray))
  | ptr (cs : List D) (b o : Nat) (us : Nat → Value) (hc : ∀ j, j < cs.length → H b (o + j) = some (us j)) (h : ∀ (j : Nat) (a : D), cs[j]? = some a → RepD H a (us j)) :
      RepD H (.ptr cs) (.pointer (some ⟨b, o, none⟩))
  | sl (k : Nat) (xs : List (List D)) (A : Option Addr) (c b o : Nat) (us : Nat → Nat → Value) (hk : ∀ cs, cs ∈ xs → cs.length = k)
      (hn : xs.length ≤ c) (hc : xs.length ≤ 9223372036854775807) (hA : 0 < xs.length → A = some ⟨b, o, none⟩) (hH : ∀ j i, j < xs.length → i < k → H b (o + j * k + i) = some (us j i))
      (h : ∀ (j i : Nat) (cs : List D) (a : D), xs[j]? = some cs → cs[i]? = some a → RepD H a (us j i)) : RepD H (.sl k xs) (.slice A xs.length c)

/-- What an own slice is: its value, as data; and who may write behind its end. -/
def OwnOk (γ : Ids) (o : Own) (A : Option Addr) (n c : Nat) : Prop :=
  match o with
  | .full => c = n
  | .row i => c = (γ i).2 ∧ (n < c → A = some ⟨(γ i).1, 0, none⟩)

inductive Rep (γ : Ids) (H : HF) : AV → Value → Prop where
  | junk (u : Value) : Rep γ H .junk u
  | d (x : D) (u : Value) (h : RepD H x u) : Rep γ H (.d x) u
  | agg (cs : List AV) (us : List Value) (hl : us.length = cs.length) (h : ∀ (j : Nat) (a : AV) (u : Value), cs[j]? = some a → us[j]? = some u → Rep γ H a u) : Rep γ H (.agg cs) (.agg us.toArray)
  | tup (cs : List AV) (us : List Value) (hl : us.length = cs.length) (h : ∀ (j : Nat) (a : AV) (u : Value), cs[j]? = some a → us[j]? = some u → Rep γ H a u) : Rep γ H (.tup cs) (.tuple us.toArray)
  | fnp (f : FuncId) (cs : List AV) (us : List Value) (hl : us.length = cs.length) (h : ∀ (j : Nat) (a : AV) (u : Value), cs[j]? = some a → us[j]? = some u → Rep γ H a u) : Rep γ H (.fnp f cs) (.func (.func f) #[] us.toArray)
  | box (i off : Nat) : Rep γ H (.box i off) (.pointer (some ⟨(γ i).1, off, none⟩))
  | mp (i : Nat) : Rep γ H (.mp i) (.map (some (γ i).1))
  | own (w : Own) (k : Nat) (xs : List (List D)) (A : Option Addr) (c : Nat) (h : RepD H (.sl k xs) (.slice A xs.length c)) (ho : OwnOk γ w A xs.length c) : Rep γ H (.own w k xs) (.slice A xs.length c)
  | arr (i k n : Nat) (A : Option Addr) (hn : n ≤ (γ i).2) (hA : 0 < (γ i).2 → A = some ⟨(γ i).1, 0, none⟩) : Rep γ H (.arr i k n) (.slice A n (γ i).2)

def HLe (H H' : HF) : Prop := ∀ b o v, H b o = some v → H' b o = some v
theorem HLe.refl (H : HF) : HLe H H := fun _ _ _ h => h
theorem HLe.trans {A B C : HF} (h : HLe A B) (k : HLe B C) : HLe A C := fun b o v x => k b o v (h b o v x)

theorem RepD.mono {H H' : HF} (hle : HLe H H') {a : D} {u : Value} (r : RepD H a u) : RepD H' a u := by
  induction r with
  | v x h => exact .v x h
  | fn f cs us hl _ ih => exact .fn f cs us hl ih
  | ifc t x u _ ih => exact .ifc t x u ih
  | ifa t cs us hl _ ih => exact .ifa t cs us hl ih
  | ptr cs b o us hc _ ih => exact .ptr cs b o us (fun j hj => hle _ _ _ (hc j hj)) ih
  | sl k xs A c b o us hk hn hc hA hH _ ih => exact .sl k xs A c b o us hk hn hc hA (fun j i hj hi => hle _ _ _ (hH j i hj hi)) ih

theorem Rep.mono {γ : Ids} {H H' : HF} (hle : HLe H H') {a : AV} {u : Value} (r : Rep γ H a u) : Rep γ H' a u := by
  induction r with
  | junk u => exact .junk u
  | d x u h => exact .d x u (h.mono hle)
  | agg cs us hl _ ih => exact .agg cs us hl ih
  | tup cs us hl _ ih => exact .tup cs us hl ih
  | fnp f cs us hl _ ih => exact .fnp f cs us hl ih
  | box i off => exact .box i off
  | mp i => exact .mp i
  | own w k xs A c h ho => exact .own w k xs A c (h.mono hle) ho
  | arr i k n A hn hA => exact .arr i k n A hn hA

/-- The ids that an abstract value names are below m. -/
inductive Ltd (m : Nat) : AV → Prop where
  | junk : Ltd m .junk
  | d (x : D) : Ltd m (.d x)
  | agg (cs : List AV) (h : ∀ a, a ∈ cs → Ltd m a) : Ltd m (.agg cs)
  | tup (cs : List AV) (h : ∀ a, a ∈ cs → Ltd m a) : Ltd m (.tup cs)
  | fnp (f : FuncId) (cs : List AV) (h : ∀ a, a ∈ cs → Ltd m a) : Ltd m (.fnp f cs)
  | box (i off : Nat) (h : i < m) : Ltd m (.box i off)
  | mp (i : Nat) (h : i < m) : Ltd m (.mp i)
  | own (w : Own) (k : Nat) (xs : List (List D)) (hw : ∀ i, w = .row i → i < m) : Ltd m (.own w k xs)
  | arr (i k n : Nat) (h : i < m) : Ltd m (.arr i k n)

theorem mem_of_get {α : Type} {l : List α} {j : Nat} {a : α} (h : l[j]? = some a) : a ∈ l := List.mem_of_getElem? h

theorem Rep.agree {γ γ' : Ids} {H : HF} {m : Nat} (hg : ∀ i, i < m → γ i = γ' i) {a : AV} {u : Value} (r : Rep γ H a u) : Ltd m a → Rep γ' H a u := by
  induction r with
  | junk u => exact fun _ => .junk u
  | d x u h => exact fun _ => .d x u h
  | agg cs us hl _ ih => exact fun l => by cases l with | agg _ h => exact .agg cs us hl fun j a u h1 h2 => ih j a u h1 h2 (h a (mem_of_get h1))
  | tup cs us hl _ ih => exact fun l => by cases l with | tup _ h => exact .tup cs us hl fun j a u h1 h2 => ih j a u h1 h2 (h a (mem_of_get h1))
  | fnp f cs us hl _ ih => exact fun l => by cases l with | fnp _ _ h => exact .fnp f cs us hl fun j a u h1 h2 => ih j a u h1 h2 (h a (mem_of_get h1))
  | box i off => exact fun l => by cases l with | box _ _ h => rw [hg i h]; exact .box i off
  | mp i => exact fun l => by cases l with | mp _ h => rw [hg i h]; exact .mp i
  | own w k xs A c h ho =>
    exact fun l => by
      cases l with
      | own _ _ _ hw =>
        refine .own w k xs A c h ?_
        cases w with
        | full => exact ho
        | row i => simp only [OwnOk] at ho ⊢; rw [← hg i (hw i rfl)]; exact ho
  | arr i k n A hn hA => exact fun l => by cases l with | arr _ _ _ h => rw [hg i h] at hn hA ⊢; exact .arr i k n A hn hA

/-! ### Values that name nothing private -/
def AV.isD : AV → Bool
  | .d _ => true
  | .own .full _ _ => true
  | _ => false
def AV.isD1 : AV → Bool
  | .d _ => true
  | .own .full _ _ => true
  | .agg cs => cs.all AV.isD
  | _ => false
def AV.open : AV → Bool
  | .d _ => true
  | .own .full _ _ => true
  | .agg cs => cs.all AV.isD
  | .tup vs => vs.all AV.isD1
  | _ => false

theorem ltd_full {m k : Nat} {xs : List (List D)} : Ltd m (.own .full k xs) := .own _ _ _ (fun i h => by cases h)
theorem ltd_isD {a : AV} (h : a.isD = true) : Ltd 0 a := by
  cases a with
  | d x => exact .d x
  | own o k xs => cases o with
    | full => exact ltd_full
    | row i => simp [AV.isD] at h
  | _ => simp [AV.isD] at h
theorem ltd_isD1 {a : AV} (h : a.isD1 = true) : Ltd 0 a := by
  cases a with
  | d x => exact .d x
  | own o k xs => cases o with
    | full => exact ltd_full
    | row i => simp [AV.isD1] at h
  | agg cs => exact .agg _ fun a ha => ltd_isD (by simp only [AV.isD1, List.all_eq_true] at h; exact h a ha)
  | _ => simp [AV.isD1] at h
theorem ltd_open {a : AV} (h : a.open = true) : Ltd 0 a := by
  cases a with
  | d x => exact .d x
  | own o k xs => cases o with
    | full => exact ltd_full
    | row i => simp [AV.open] at h
  | agg cs => exact .agg _ fun a ha => ltd_isD (by simp only [AV.open, List.all_eq_true] at h; exact h a ha)
  | tup cs => exact .tup _ fun a ha => ltd_isD1 (by simp only [AV.open, List.all_eq_true] at h; exact h a ha)
  | _ => simp [AV.open] at h
theorem Rep.free {γ γ' : Ids} {H : HF} {a : AV} {u : Value} (r : Rep γ H a u) (h : a.open = true) : Rep γ' H a u := r.agree (m := 0) (fun i hi => absurd hi (by omega)) (ltd_open h)

end Go.Sv
