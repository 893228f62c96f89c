/- A range over a function: what an iterator is; the loop. -/
import Derived.Test.YthfemmcodfajaaaDoorGR
set_option linter.unusedVariables false
set_option linter.unusedSimpArgs false
namespace Go.Gv
open Go.RowKit

/-! ### What an iterator hands over -/
def Can (ρ : Res) : ρ.S → List (List AV) → Prop
  | _, [] => True
  | s, x :: L => ρ.pre s x ∧ ∀ s', ρ.step s x true s' → Can ρ s' L
inductive Feeds (ρ : Res) : ρ.S → List (List AV) → Bool → ρ.S → Prop where
  | nil (s : ρ.S) : Feeds ρ s [] true s
  | go {s s1 s2 : ρ.S} {x : List AV} {L : List (List AV)} {b : Bool} (h : ρ.step s x true s1) (k : Feeds ρ s1 L b s2) : Feeds ρ s (x :: L) b s2
  | stop {s s1 : ρ.S} {x : List AV} {L : List (List AV)} (h : ρ.step s x false s1) : Feeds ρ s (x :: L) false s1
theorem Can.app {ρ : Res} : ∀ {L M : List (List AV)} {s : ρ.S}, Can ρ s (L ++ M) → Can ρ s L ∧ ∀ s', Feeds ρ s L true s' → Can ρ s' M
  | [], M, s, h => ⟨trivial, fun s' k => by cases k; exact h⟩
  | x :: L, M, s, h => ⟨⟨h.1, fun s' k => (Can.app (h.2 s' k)).1⟩, fun s' k => by
      cases k with
      | go h1 k1 => exact (Can.app (h.2 _ h1)).2 s' k1⟩
theorem Feeds.app {ρ : Res} {L M : List (List AV)} {s s1 s2 : ρ.S} {b : Bool} (h : Feeds ρ s L true s1) (k : Feeds ρ s1 M b s2) : Feeds ρ s (L ++ M) b s2 := by
  generalize hb : true = c at h
  induction h with
  | nil s => exact k
  | go h1 _ ih => exact .go h1 (ih k hb)
  | stop h1 => cases hb
theorem Feeds.cut {ρ : Res} {L : List (List AV)} (M : List (List AV)) {s s1 : ρ.S} (h : Feeds ρ s L false s1) : Feeds ρ s (L ++ M) false s1 := by
  generalize hb : false = c at h
  induction h with
  | nil s => cases hb
  | go h1 _ ih => exact .go h1 (ih hb)
  | stop h1 => exact .stop h1
/-- A function that hands over some elements, one behind the other, till it is told to end. -/
def Iter (Λ : Amb) (P : Program) (f : FuncId) (caps : List AV) (L : List (List AV)) : Prop :=
  ∀ (ρ : Res), ρ.P = P → ρ.Λ = Λ → ∀ s, Can ρ s L → Ct Λ P f (.d (.v ρ.fv) :: caps) [(0, .res ρ s)] (fun _ σ' => ∃ b s', Feeds ρ s L b s' ∧ σ' = [(0, .res ρ s')])

/-! ### Names -/
def nm0 : AV → List Nat
  | .box i _ => [i]
  | .boxX i _ => [i]
  | .arr i _ _ => [i]
  | .mp i => [i]
  | _ => []
def nm1 : AV → List Nat
  | .agg cs => cs.flatMap nm0
  | .tup cs => cs.flatMap nm0
  | .fnp _ cs => cs.flatMap nm0
  | a => nm0 a
def flat0 : AV → Bool
  | .agg _ => false
  | .tup _ => false
  | .fnp _ _ => false
  | _ => true
def flat1 : AV → Bool
  | .agg cs => cs.all flat0
  | .tup cs => cs.all flat0
  | .fnp _ cs => cs.all flat0
  | _ => true
theorem has0_nm {i : Nat} {a : AV} (h : has0 i a = true) (hf : flat0 a = true) : i ∈ nm0 a := by
  cases a <;> simp_all [has0, nm0, flat0]
theorem any_has0 {i : Nat} {cs : List AV} (hf : cs.all flat0 = true) (h : cs.any (has0 i) = true) : i ∈ cs.flatMap nm0 := by
  obtain ⟨x, hx, h1⟩ := List.any_eq_true.1 h
  exact List.mem_flatMap.2 ⟨x, hx, has0_nm h1 (List.all_eq_true.1 hf x hx)⟩
theorem has1_nm {i : Nat} {a : AV} (h : has1 i a = true) (hf : flat1 a = true) : i ∈ nm1 a := by
  cases a with
  | agg cs => exact any_has0 hf h
  | tup cs => exact any_has0 hf h
  | fnp f cs => exact any_has0 hf h
  | d x => simp [has1, has0] at h
  | full k xs => simp [has1, has0] at h
  | junk => simp [has1, has0] at h
  | box j off => simp only [has1, has0, Nat.beq_eq] at h; subst h; simp [nm1, nm0]
  | boxX j off => simp only [has1, has0, Nat.beq_eq] at h; subst h; simp [nm1, nm0]
  | arr j k n => simp only [has1, has0, Nat.beq_eq] at h; subst h; simp [nm1, nm0]
  | mp j => simp only [has1, has0, Nat.beq_eq] at h; subst h; simp [nm1, nm0]
def nm2 : AV → List Nat
  | .agg cs => cs.flatMap nm1
  | .tup cs => cs.flatMap nm1
  | .fnp _ cs => cs.flatMap nm1
  | a => nm0 a
def flat2 : AV → Bool
  | .agg cs => cs.all flat1
  | .tup cs => cs.all flat1
  | .fnp _ cs => cs.all flat1
  | _ => true
theorem any_has {i : Nat} {cs : List AV} (hf : cs.all flat1 = true) (h : cs.any (has1 i) = true) : i ∈ cs.flatMap nm1 := by
  obtain ⟨x, hx, h1⟩ := List.any_eq_true.1 h
  exact List.mem_flatMap.2 ⟨x, hx, has1_nm h1 (List.all_eq_true.1 hf x hx)⟩
theorem has2_nm {i : Nat} {a : AV} (h : has2 i a = true) (hf : flat2 a = true) : i ∈ nm2 a := by
  cases a with
  | agg cs => exact any_has hf h
  | tup cs => exact any_has hf h
  | fnp f cs => exact any_has hf h
  | d x => simp [has2, has1, has0] at h
  | full k xs => simp [has2, has1, has0] at h
  | junk => simp [has2, has1, has0] at h
  | box j off => simp only [has2, has1, has0, Nat.beq_eq] at h; subst h; simp [nm2, nm0]
  | boxX j off => simp only [has2, has1, has0, Nat.beq_eq] at h; subst h; simp [nm2, nm0]
  | arr j k n => simp only [has2, has1, has0, Nat.beq_eq] at h; subst h; simp [nm2, nm0]
  | mp j => simp only [has2, has1, has0, Nat.beq_eq] at h; subst h; simp [nm2, nm0]
/-- The names that some temporaries speak of. -/
def namesOf : T → List Nat
  | [] => []
  | (_, a) :: t => nm2 a ++ namesOf t
def flatT (t : T) : Bool := t.all fun p => flat2 p.2
theorem names_t {t : T} (hf : flatT t = true) {i j : Nat} {a : AV} (hj : look j t = some a) (hi : has2 i a = true) : i ∈ namesOf t := by
  have h1 := look_mem hj
  have h2 := List.all_eq_true.1 hf _ h1
  have h3 := has2_nm hi h2
  clear hj hf h2 hi
  induction t with
  | nil => simp at h1
  | cons p t ih =>
    obtain ⟨k, b⟩ := p
    simp only [namesOf, List.mem_append]
    rcases List.mem_cons.1 h1 with h | h
    · cases h; exact .inl h3
    · exact .inr (ih h)
end Go.Gv
