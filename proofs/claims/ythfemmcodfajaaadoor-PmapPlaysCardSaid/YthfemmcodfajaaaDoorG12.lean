/- A region that draws its order: quiet operations and births of variables in any order, first; then those that stand behind all others. -/
import Derived.Test.YthfemmcodfajaaaDoorG11
import Derived.OrdersIn
set_option linter.unusedVariables false
set_option linter.unusedSimpArgs false
namespace Go.Gv
open Go.RowKit

/-- One operation of a calm region, at its guard. -/
def OStep (X : Cx) (all : Array Oper) (o : Oper) (t : T) (σ : Sg) (V : AV) : Prop :=
  (o.guard = none ∧ QJ X o t σ V) ∨
  (∃ j b d, o.guard = some (j, b) ∧ ((all[j]?).bind (·.dst)) = some d ∧ look d t = some (.d (.v (.bool b))) ∧ QJ X o t σ V) ∨
  (∃ j b b' d, o.guard = some (j, b) ∧ ((all[j]?).bind (·.dst)) = some d ∧ look d t = some (.d (.v (.bool b'))) ∧ b' ≠ b ∧ V = .tup []) ∨
  (∃ j b d, o.guard = some (j, b) ∧ ((all[j]?).bind (·.dst)) = some d ∧ look d t = some (.tup []) ∧ V = .tup [])

section
variable {X : Cx} {all : Array Oper} {rest : List Oper} {t : T} {σ : Sg} {Q : T → Sg → Prop} {o : Oper}
theorem Wk.put {t t' : T} {d : Option Nat} {V : AV} (h : Wk t' t) : Wk (putT d V t') (putT d V t) := by
  cases d with
  | none => exact h
  | some d =>
    intro i a hi
    simp only [putT, look_cons] at hi ⊢
    split
    · next e => rw [if_pos e] at hi; exact hi
    · next e => rw [if_neg e] at hi; exact h i a hi
theorem OStep.wk {t t' : T} {V : AV} (hw : Wk t' t) (h : OStep X all o t' σ V) : OStep X all o t σ V := by
  rcases h with ⟨h1, h2⟩ | ⟨j, b, d, h1, h2, h3, h4⟩ | ⟨j, b, b', d, h1, h2, h3, h4, h5⟩ | ⟨j, b, d, h1, h2, h3, h4⟩
  · exact .inl ⟨h1, h2.wk hw (Wk.refl _)⟩
  · exact .inr (.inl ⟨j, b, d, h1, h2, hw _ _ h3, h4.wk hw (Wk.refl _)⟩)
  · exact .inr (.inr (.inl ⟨j, b, b', d, h1, h2, hw _ _ h3, h4, h5⟩))
  · exact .inr (.inr (.inr ⟨j, b, d, h1, h2, hw _ _ h3, h4⟩))
end

/-! ### Any order -/
def hasT (x : Nat) : Operand → Bool
  | .tmp i => Nat.beq i x
  | _ => false
def namesT (all : Array Oper) (o : Oper) (x : Nat) : Bool :=
  (match o.dst with | some d => Nat.beq d x | none => false) || o.op.operands.toList.any (hasT x) ||
    (match o.guard with | some (j, _) => (match (all[j]?).bind (·.dst) with | some d => Nat.beq d x | none => false) | none => false)
def edge (o : Oper) (j : Nat) : Bool := o.after.toList.any fun e => Nat.beq e.on j && Region.binds .any e
def dstAt (all : Array Oper) (i : Nat) : Option Nat := (all[i]?).bind (·.dst)
/-- Operations that name one temporary stand in an order; edges lead back; from the m-th on each stands behind all that are ahead. -/
def calmOk (all : Array Oper) (m : Nat) : Bool :=
  (List.range all.size).all fun j => match all[j]? with
    | none => true
    | some o => o.after.all (fun e => !Region.binds .any e || Nat.blt e.on j) && (Nat.blt j m || (List.range j).all fun i => edge o i || (Nat.blt i m && (List.range j).any fun x => edge o x && (match all[x]? with | some p => edge p i | none => false))) &&
      (List.range j).all fun i => match all[i]? with
        | none => true
        | some p => edge o i || ((match p.dst with | some x => !namesT all o x | none => true) && (match o.dst with | some x => !namesT all p x | none => true))

section any
variable {all : Array Oper} {m : Nat}
theorem calm_at (h : calmOk all m = true) {j : Nat} {o : Oper} (ho : all[j]? = some o) : (∀ e, e ∈ o.after → Region.binds .any e = true → e.on < j) ∧ (m ≤ j → ∀ i, i < j → edge o i = true ∨ (i < m ∧ ∃ x p, all[x]? = some p ∧ edge o x = true ∧ edge p i = true)) ∧
    ∀ i p, i < j → all[i]? = some p → edge o i = true ∨ ((∀ x, p.dst = some x → namesT all o x = false) ∧ ∀ x, o.dst = some x → namesT all p x = false) := by
  have hj : j < all.size := (Array.getElem?_eq_some_iff.1 ho).1
  have h1 := (List.all_eq_true.1 h) j (List.mem_range.2 hj)
  simp only [ho, Bool.and_eq_true] at h1
  obtain ⟨⟨h2, h3⟩, h4⟩ := h1
  refine ⟨fun e he hb => ?_, fun hm i hi => ?_, fun i p hi hp => ?_⟩
  · have := (Array.all_eq_true_iff_forall_mem.1 h2) e he
    simp only [hb, Bool.not_true, Bool.false_or, Nat.blt_eq] at this
    exact this
  · rcases Bool.or_eq_true_iff.1 h3 with h5 | h5
    · simp only [Nat.blt_eq] at h5; omega
    · have h6 := List.all_eq_true.1 h5 i (List.mem_range.2 hi)
      simp only [Bool.or_eq_true, Bool.and_eq_true, Nat.blt_eq, List.any_eq_true] at h6
      rcases h6 with h6 | ⟨h6, x, _, h7, h8⟩
      · exact .inl h6
      · split at h8
        · next p hp => exact .inr ⟨h6, x, p, hp, h7, h8⟩
        · cases h8
  · have h5 := List.all_eq_true.1 h4 i (List.mem_range.2 hi)
    simp only [hp] at h5
    rcases Bool.or_eq_true_iff.1 h5 with h6 | h6
    · exact .inl h6
    · refine .inr ?_
      simp only [Bool.and_eq_true] at h6
      refine ⟨fun x hx => ?_, fun x hx => ?_⟩
      · have := h6.1; simp only [hx] at this; simpa using this
      · have := h6.2; simp only [hx] at this; simpa using this

/-- The one is bound to stand ahead of the other. -/
inductive Anc (all : Array Oper) : Nat → Nat → Prop where
  | one {j i : Nat} {o : Oper} (ho : all[j]? = some o) (h : edge o i = true) : Anc all j i
  | step {j x i : Nat} {o : Oper} (ho : all[j]? = some o) (h : edge o x = true) (k : Anc all x i) : Anc all j i
structure CalmR (all : Array Oper) (m : Nat) : Prop where
  back : ∀ j o, all[j]? = some o → ∀ e, e ∈ o.after → Region.binds .any e = true → e.on < j
  tail : ∀ j o, all[j]? = some o → m ≤ j → ∀ i, i < m → Anc all j i
  names : ∀ j o, j < m → all[j]? = some o → ∀ i p, i < j → all[i]? = some p → edge o i = true ∨ ((∀ x, p.dst = some x → namesT all o x = false) ∧ ∀ x, o.dst = some x → namesT all p x = false)
theorem calmOk_R (h : calmOk all m = true) : CalmR all m where
  back := fun j o ho => (calm_at h ho).1
  tail := fun j o ho hm i hi => by
    rcases (calm_at h ho).2.1 hm i (by omega) with h5 | ⟨_, x, p, hp, h5, h6⟩
    · exact .one ho h5
    · exact .step ho h5 (.one hp h6)
  names := fun j o _ ho i p hi hp => (calm_at h ho).2.2 i p hi hp
def edgeAt (all : Array Oper) (j i : Nat) : Bool := match all[j]? with
  | some o => edge o i
  | none => false
def ancB (all : Array Oper) : Nat → Nat → Nat → Bool
  | 0, _, _ => false
  | n + 1, j, i => edgeAt all j i || (List.range j).any fun x => edgeAt all j x && ancB all n x i
theorem ancB_sound : ∀ (n j i : Nat), ancB all n j i = true → Anc all j i
  | 0, _, _, h => by simp [ancB] at h
  | n + 1, j, i, h => by
    simp only [ancB, Bool.or_eq_true, List.any_eq_true, Bool.and_eq_true] at h
    rcases h with h | ⟨x, _, h1, h2⟩
    · unfold edgeAt at h
      split at h
      · next o ho => exact .one ho h
      · cases h
    · unfold edgeAt at h1
      split at h1
      · next o ho => exact .step ho h1 (ancB_sound n x i h2)
      · cases h1
def calmB2 (all : Array Oper) (m : Nat) : Bool :=
  (List.range all.size).all fun j => match all[j]? with
    | none => true
    | some o => o.after.all (fun e => !Region.binds .any e || Nat.blt e.on j) && (Nat.blt j m || (List.range m).all fun i => ancB all 24 j i) &&
      (!Nat.blt j m || (List.range j).all fun i => match all[i]? with
        | none => true
        | some p => edge o i || ((match p.dst with | some x => !namesT all o x | none => true) && (match o.dst with | some x => !namesT all p x | none => true)))
theorem calmB2_R (h : calmB2 all m = true) : CalmR all m := by
  have at' : ∀ j o, all[j]? = some o → _ := fun j o ho => by
    have hj : j < all.size := (Array.getElem?_eq_some_iff.1 ho).1
    have h1 := (List.all_eq_true.1 h) j (List.mem_range.2 hj)
    simp only [ho, Bool.and_eq_true] at h1
    exact h1
  refine ⟨fun j o ho e he hb => ?_, fun j o ho hm i hi => ?_, fun j o hjm ho i p hi hp => ?_⟩
  · obtain ⟨⟨h2, h3⟩, h4⟩ := at' j o ho
    have := (Array.all_eq_true_iff_forall_mem.1 h2) e he
    simp only [hb, Bool.not_true, Bool.false_or, Nat.blt_eq] at this
    exact this
  · obtain ⟨⟨h2, h3⟩, h4⟩ := at' j o ho
    rcases Bool.or_eq_true_iff.1 h3 with h5 | h5
    · simp only [Nat.blt_eq] at h5; omega
    · exact ancB_sound _ _ _ (List.all_eq_true.1 h5 i (List.mem_range.2 hi))
  · obtain ⟨⟨h2, h3⟩, h4⟩ := at' j o ho
    rcases Bool.or_eq_true_iff.1 h4 with h5 | h5
    · have : Nat.blt j m = true := by simpa using hjm
      rw [this] at h5; cases h5
    · have h5 := List.all_eq_true.1 h5 i (List.mem_range.2 hi)
      simp only [hp] at h5
      rcases Bool.or_eq_true_iff.1 h5 with h6 | h6
      · exact .inl h6
      · refine .inr ?_
        simp only [Bool.and_eq_true] at h6
        refine ⟨fun x hx => ?_, fun x hx => ?_⟩
        · have := h6.1; simp only [hx] at this; simpa using this
        · have := h6.2; simp only [hx] at this; simpa using this
theorem edge_listed {o : Oper} {j : Nat} {listed : Array Bool} (he : edge o j = true) (hr : ∀ e, e ∈ o.after → Region.binds .any e = true → listed.getD e.on false = true) : listed.getD j false = true := by
  simp only [edge, List.any_eq_true] at he
  obtain ⟨e, hm, hb⟩ := he
  rw [Array.mem_toList_iff] at hm
  simp only [Bool.and_eq_true, Nat.beq_eq] at hb
  obtain ⟨rfl, hb2⟩ := hb
  exact hr e hm hb2

theorem anc_listed {listed : Array Bool} (hcl : ∀ i o, listed.getD i false = true → all[i]? = some o → ∀ e, e ∈ o.after → Region.binds .any e = true → listed.getD e.on false = true) {j i : Nat} (h : Anc all j i) :
    ∀ {o : Oper}, all[j]? = some o → (∀ e, e ∈ o.after → Region.binds .any e = true → listed.getD e.on false = true) → listed.getD i false = true := by
  induction h with
  | one ho' h => intro o ho hr; rw [ho] at ho'; cases ho'; exact edge_listed h hr
  | step ho' h k ih =>
    intro o ho hr
    rw [ho] at ho'; cases ho'
    have hx := edge_listed h hr
    cases k with
    | one hp h2 => exact ih hp (hcl _ _ hx hp)
    | step hp h2 k2 => exact ih hp (hcl _ _ hx hp)
/-- The last listed operation below k that writes x. -/
def lastW (all : Array Oper) (S : Nat → Bool) (x : Nat) : Nat → Option Nat
  | 0 => none
  | k + 1 => if S k = true ∧ dstAt all k = some x then some k else lastW all S x k
theorem lastW_congr {S S' : Nat → Bool} {x : Nat} : ∀ k, (∀ j, j < k → dstAt all j = some x → S j = S' j) → lastW all S x k = lastW all S' x k
  | 0, _ => rfl
  | k + 1, h => by
    simp only [lastW]
    rw [lastW_congr k (fun j hj => h j (by omega))]
    by_cases hd : dstAt all k = some x
    · rw [h k (by omega) hd]
    · simp [hd]
theorem lastW_top {x : Nat} {i : Nat} : ∀ k, i ≤ k → lastW all (fun j => decide (j < i)) x k = lastW all (fun _ => true) x i
  | 0, h => by obtain rfl : i = 0 := by omega
               rfl
  | k + 1, h => by
    by_cases e : i = k + 1
    · subst e
      exact lastW_congr _ fun j hj _ => by simp [hj]
    · simp only [lastW]
      rw [if_neg (by simp; omega), lastW_top k (by omega)]
theorem lastW_spec {S : Nat → Bool} {x : Nat} : ∀ k j, lastW all S x k = some j → j < k ∧ S j = true ∧ dstAt all j = some x
  | 0, j, h => by simp [lastW] at h
  | k + 1, j, h => by
    simp only [lastW] at h
    split at h
    · next hc => simp only [Option.some.injEq] at h; subst h; exact ⟨by omega, hc.1, hc.2⟩
    · obtain ⟨h1, h2, h3⟩ := lastW_spec k j h; exact ⟨by omega, h2, h3⟩

def tabAt (all : Array Oper) (V : Nat → AV) (t0 : T) (S : Nat → Bool) (k x : Nat) : Option AV :=
  match lastW all S x k with
  | some j => some (V j)
  | none => look x t0

/-- The states that a calm region goes through in its text's order. -/
def states (all : Array Oper) (V : Nat → AV) (t0 : T) : Nat → T
  | 0 => t0
  | k + 1 => putT (dstAt all k) (V k) (states all V t0 k)
theorem look_states (V : Nat → AV) (t0 : T) (x : Nat) : ∀ k, look x (states all V t0 k) = tabAt all V t0 (fun _ => true) k x
  | 0 => rfl
  | k + 1 => by
    have ih := look_states V t0 x k
    simp only [states, tabAt, lastW, true_and]
    cases hd : dstAt all k with
    | none => simpa [putT, tabAt] using ih
    | some d =>
      simp only [putT, look_cons, Option.some.injEq]
      by_cases e : x = d
      · subst e; simp
      · rw [if_neg e, if_neg (fun h => e h.symm), ih]; rfl

def TabOk (γ : Ids) (H : HF) (f : Nat → Option AV) (tm : Array Value) : Prop := ∀ i a, f i = some a → ∃ u, tm[i]? = some u ∧ Rep γ H a u

theorem ready_sound {md : Region.Mode} {listed : Array Bool} {i : Nat} (h : i ∈ Region.ready md all listed) : listed.getD i true = false ∧ ∃ o, all[i]? = some o ∧ ∀ e, e ∈ o.after → Region.binds md e = true → listed.getD e.on false = true := mem_ready.1 h

theorem getD_of {listed : Array Bool} {i : Nat} (h : listed.getD i true = false) : i < listed.size ∧ listed.getD i false = false := by
  rw [Array.getD_eq_getD_getElem?] at h ⊢
  cases hx : listed[i]? with
  | none => rw [hx] at h; simp at h
  | some b => rw [hx] at h; simp at h; subst h; exact ⟨(Array.getElem?_eq_some_iff.1 hx).1, rfl⟩

end any

theorem wpAnyIn_tail {F : Fence} {n : Nat} {P : Program} {all : Array Oper} {m : Nat} {Q : Exit → Act → World → Prop} (hc : calmOk all m = true) : ∀ (fuel k : Nat) (listed : Array Bool) (a : Act) (w : World), m ≤ k → k + fuel = all.size → listed.size = all.size →
    (∀ j, j < all.size → listed.getD j false = decide (j < k)) → wpOpsIn F n P all Q (List.range' k fuel) a w → wpAnyIn F n P .any all Q fuel listed a w
  | 0, k, listed, a, w, hm, hk, hs, hl, h => by
    refine ⟨?_, by simpa [wpOpsIn] using h⟩
    rw [List.eq_nil_iff_forall_not_mem]
    intro i hi
    obtain ⟨h1, o, ho, _⟩ := ready_sound hi
    have := hl i (Array.getElem?_eq_some_iff.1 ho).1
    have hi' := (getD_of h1).2
    rw [hi'] at this
    have hlt := (Array.getElem?_eq_some_iff.1 ho).1
    simp at this; omega
  | fuel + 1, k, listed, a, w, hm, hk, hs, hl, h => by
    have hkn : k < all.size := by omega
    have hready : ∀ i, i ∈ Region.ready .any all listed → i = k := by
      intro i hi
      obtain ⟨h1, o, ho, h2⟩ := ready_sound hi
      have hlt := (Array.getElem?_eq_some_iff.1 ho).1
      have h3 := hl i hlt
      rw [(getD_of h1).2] at h3
      have h4 : ¬ i < k := by simpa using h3.symm
      by_cases e : i = k
      · exact e
      · have h5 : edge o k = true := by
          rcases (calm_at hc ho).2.1 (by omega) k (by omega) with h5 | ⟨h5, _⟩
          · exact h5
          · omega
        have h6 := edge_listed h5 h2
        rw [hl k hkn] at h6
        simp at h6
    rw [List.range'_succ, wpOpsIn_cons] at h
    refine ⟨fun hn => ?_, fun i hi => ?_⟩
    · exfalso
      have hmem : k ∈ Region.ready .any all listed := by
        rw [mem_ready]
        refine ⟨?_, all[k], by simp [hkn], fun e he hb => ?_⟩
        · have := hl k hkn
          simp only [Nat.lt_irrefl, decide_false] at this
          rw [Array.getD_eq_getD_getElem?] at this ⊢
          rw [Array.getElem?_eq_getElem (by omega)] at this ⊢
          simpa using this
        · have := (calm_at hc (j := k) (o := all[k]) (by simp [hkn])).1 e he hb
          rw [hl _ (by omega)]; simpa using this
      rw [hn] at hmem; cases hmem
    · obtain rfl := hready i hi
      refine wpOpIn_mono (fun a w hw => ?_) h
      refine wpAnyIn_tail hc fuel (i + 1) _ a w (by omega) (by omega) (by simpa using hs) (fun j hj => ?_) hw
      by_cases e : i = j
      · subst e
        rw [Array.getD_eq_getD_getElem?]; simp [hs, hkn]
      · rw [getD_set_ne false e, hl j hj]
        simp; omega

def statesFrom (all : Array Oper) (V : Nat → AV) (t : T) (k : Nat) : Nat → T
  | 0 => t
  | j + 1 => putT (dstAt all (k + j)) (V (k + j)) (statesFrom all V t k j)
theorem statesFrom_congr {all : Array Oper} {V V' : Nat → AV} {t : T} {k : Nat} : ∀ j, (∀ i, k ≤ i → i < k + j → V i = V' i) → statesFrom all V t k j = statesFrom all V' t k j
  | 0, _ => rfl
  | j + 1, h => by
    simp only [statesFrom]
    rw [h (k + j) (by omega) (by omega), statesFrom_congr j (fun i h1 h2 => h i h1 (by omega))]
theorem statesFrom_succ {all : Array Oper} {V : Nat → AV} {t : T} {k : Nat} : ∀ j, statesFrom all V t k (j + 1) = statesFrom all V (putT (dstAt all k) (V k) t) (k + 1) j
  | 0 => rfl
  | j + 1 => by
    rw [statesFrom, statesFrom_succ j, statesFrom]
    rw [show k + (j + 1) = k + 1 + j from by omega]
theorem statesFrom_zero {all : Array Oper} {V : Nat → AV} {t : T} : ∀ j, statesFrom all V t 0 j = states all V t j
  | 0 => rfl
  | j + 1 => by simp only [statesFrom, states, Nat.zero_add, statesFrom_zero j]

/-- What is private, with what is born by the operations that are listed. -/
def bornAt (E : Nat → Option (Nat × Ent)) (S : Nat → Bool) (σ : Sg) : Nat → Sg
  | 0 => σ
  | k + 1 => match E k with
    | some p => if S k = true then p :: bornAt E S σ k else bornAt E S σ k
    | none => bornAt E S σ k
theorem bornAt_congr {E : Nat → Option (Nat × Ent)} {S S' : Nat → Bool} {σ : Sg} : ∀ k, (∀ j, j < k → E j ≠ none → S j = S' j) → bornAt E S σ k = bornAt E S' σ k
  | 0, _ => rfl
  | k + 1, h => by
    simp only [bornAt]
    rw [bornAt_congr k fun j hj => h j (by omega)]
    cases hE : E k with
    | none => rfl
    | some p => simp only [h k (by omega) (by rw [hE]; exact fun h => by cases h)]
theorem bornAt_mem {E : Nat → Option (Nat × Ent)} {S : Nat → Bool} {σ : Sg} {p : Nat × Ent} : ∀ k, p ∈ bornAt E S σ k → p ∈ σ ∨ ∃ j, j < k ∧ S j = true ∧ E j = some p
  | 0, h => .inl h
  | k + 1, h => by
    have up : p ∈ bornAt E S σ k → p ∈ σ ∨ ∃ j, j < k + 1 ∧ S j = true ∧ E j = some p := fun h => by
      rcases bornAt_mem k h with h | ⟨j, h1, h2⟩
      · exact .inl h
      · exact .inr ⟨j, by omega, h2⟩
    simp only [bornAt] at h
    cases hE : E k with
    | none => rw [hE] at h; exact up h
    | some q =>
      rw [hE] at h
      simp only at h
      split at h
      · next hs =>
        rcases List.mem_cons.1 h with rfl | h
        · exact .inr ⟨k, by omega, hs, hE⟩
        · exact up h
      · exact up h
theorem bornAt_look {E : Nat → Option (Nat × Ent)} {S : Nat → Bool} {σ : Sg} (hd : ∀ i j x e f, E i = some (x, e) → E j = some (x, f) → i = j) {i x : Nat} {e : Ent} : ∀ k, i < k → S i = true → E i = some (x, e) → look x (bornAt E S σ k) = some e
  | 0, h, _, _ => by omega
  | k + 1, h, hs, hE => by
    by_cases hik : i = k
    · subst hik
      simp only [bornAt, hE, hs, if_true, look_cons]
    · have ih := bornAt_look (σ := σ) hd k (by omega) hs hE
      simp only [bornAt]
      cases hk : E k with
      | none => exact ih
      | some q =>
        simp only
        split
        · obtain ⟨y, f⟩ := q
          rw [look_cons, if_neg (fun h => hik (by subst h; exact hd i k _ _ _ hE hk))]
          exact ih
        · exact ih
theorem bornAt_old {E : Nat → Option (Nat × Ent)} {S : Nat → Bool} {σ : Sg} {x : Nat} {a : Ent} (hx : look x σ = some a) (hn : ∀ i y e, E i = some (y, e) → y ≠ x) : ∀ k, look x (bornAt E S σ k) = some a
  | 0 => hx
  | k + 1 => by
    have ih := bornAt_old (S := S) hx hn k
    simp only [bornAt]
    cases hk : E k with
    | none => exact ih
    | some q =>
      simp only
      split
      · obtain ⟨y, f⟩ := q
        rw [look_cons, if_neg (fun h => hn k y f hk h.symm)]
        exact ih
      · exact ih

theorem bornAt_lookup {E : Nat → Option (Nat × Ent)} {S : Nat → Bool} {σ : Sg} {x : Nat} {f : Ent} : ∀ k, look x (bornAt E S σ k) = some f → (∃ j, j < k ∧ S j = true ∧ E j = some (x, f)) ∨ look x σ = some f
  | 0, h => .inr h
  | k + 1, h => by
    have up : look x (bornAt E S σ k) = some f → (∃ j, j < k + 1 ∧ S j = true ∧ E j = some (x, f)) ∨ look x σ = some f := fun h => by
      rcases bornAt_lookup k h with ⟨j, h1, h2⟩ | h
      · exact .inl ⟨j, by omega, h2⟩
      · exact .inr h
    simp only [bornAt] at h
    cases hE : E k with
    | none => rw [hE] at h; exact up h
    | some q =>
      rw [hE] at h
      simp only at h
      split at h
      · next hs =>
        obtain ⟨y, e⟩ := q
        rw [look_cons] at h
        split at h
        · next e' =>
          simp only [Option.some.injEq] at h; subst h; subst e'
          exact .inl ⟨k, by omega, hs, hE⟩
        · exact up h
      · exact up h

/-- A variable is born. -/
def NewJ (X : Cx) (o : Oper) (t : T) (cs : List AV) : Prop :=
  ∀ (γ : Ids) (H : HF) (a : Act) (w : World), (∀ x, x ∈ o.op.operands → ∀ v, ge t x = some v → Rep γ H v (a.eval x)) →
    ∃ (us : List Value) (e : TypeId), (o.semAt X.ro a.eval).run X.P w = .ok (.value (.pointer (some ⟨w.heap.size, 0, none⟩))) (w.alloc (.cells us.toArray e)) ∧ us.length = cs.length ∧ ∀ (j : Nat) (x : AV) (u : Value), cs[j]? = some x → us[j]? = some u → Rep γ H x u
/-- One operation of a calm region: quiet, or the birth of a variable. -/
def BStep (X : Cx) (all : Array Oper) (o : Oper) (t : T) (σ : Sg) (V : AV) (E : Option (Nat × Ent)) : Prop :=
  (E = none ∧ OStep X all o t σ V) ∨
  (∃ id cs, o.guard = none ∧ NewJ X o t cs ∧ V = .box id 0 ∧ E = some (id, .cells cs) ∧ cs.any (has2 id) = false)
theorem NewJ.wk {X : Cx} {o : Oper} {t t' : T} {cs : List AV} (hw : Wk t' t) (h : NewJ X o t' cs) : NewJ X o t cs :=
  fun γ H a w so => h γ H a w fun x hx v hv => so x hx v (by
    cases x with
    | tmp i => exact hw i v hv
    | const c => exact hv
    | func f => exact hv
    | global g => exact hv)
theorem St.withT {X : Cx} {γ : Ids} {H : HF} {t : T} {σ : Sg} {a : Act} {w : World} (s : St X γ H [] σ a w) (h : TmpOk γ H t a.tmps) : St X γ H t σ a w := ⟨s.lam, s.round, s.defers, s.size, s.pinned, h, s.mem⟩

/-- The heart: quiet operations come up in any order. -/
theorem calm_anyB {X : Cx} {all : Array Oper} {m : Nat} {t0 : T} {σ : Sg} {V : Nat → AV} {E : Nat → Option (Nat × Ent)} {Q' : Exit → Act → World → Prop} (hc : CalmR all m) (hm : m ≤ all.size)
    (hstep : ∀ i o, i < m → all[i]? = some o → BStep X all o (states all V t0 i) σ (V i) (E i) ∧ dOk o.dst X.N = true)
    (hfr : ∀ i id e, E i = some (id, e) → isFresh id t0 σ X.pin = true ∧ (∀ j x, j < m → j ≠ i → dstAt all j = some x → has2 id (V j) = false) ∧ ∀ j id' e', j ≠ i → E j = some (id', e') → id' ≠ id ∧ entHas id e' = false)
    (hend : ∀ γ H a w listed, St X γ H (states all V t0 m) (bornAt E (fun _ => true) σ m) a w → listed.size = all.size → (∀ j, j < all.size → listed.getD j false = decide (j < m)) → wpAnyIn (Fr X.ro) 0 X.P .any all Q' (all.size - m) listed a w) :
    ∀ (fuel : Nat) (listed : Array Bool) (γ : Ids) (H : HF) (a : Act) (w : World), listed.size = all.size →
      (∀ j, m ≤ j → listed.getD j false = false) → (∀ i o, listed.getD i false = true → all[i]? = some o → ∀ e, e ∈ o.after → Region.binds .any e = true → listed.getD e.on false = true) →
      ((List.range m).filter fun j => !listed.getD j false).length + (all.size - m) = fuel →
      TabOk γ H (tabAt all V t0 (fun j => listed.getD j false) m) a.tmps → St X γ H [] (bornAt E (fun j => listed.getD j false) σ m) a w →
      wpAnyIn (Fr X.ro) 0 X.P .any all Q' fuel listed a w := by
  intro fuel
  induction fuel with
  | zero =>
    intro listed γ H a w hs htail hclosed hcount htab sst
    have hall : ∀ j, j < m → listed.getD j false = true := fun j hj => by
      have h0 : ((List.range m).filter fun j => !listed.getD j false) = [] := List.length_eq_zero_iff.1 (by omega)
      have := List.filter_eq_nil_iff.1 h0 j (List.mem_range.2 hj)
      simpa using this
    have hmn : m = all.size := by omega
    have hst : St X γ H (states all V t0 m) (bornAt E (fun _ => true) σ m) a w := St.withT (by have h9 := sst; rw [bornAt_congr (S' := fun _ => true) m (fun j hj _ => hall j hj)] at h9; exact h9) (fun i b hi => htab i b (by
      rw [look_states] at hi
      rw [← hi]
      simp only [tabAt]
      rw [lastW_congr m (fun j hj _ => hall j hj)]))
    have := hend γ H a w listed hst hs (fun j hj => by rw [hall j (by omega)]; simp; omega)
    rw [show all.size - m = 0 from by omega] at this; exact this
  | succ fuel ih =>
    intro listed γ H a w hs htail hclosed hcount htab sst
    by_cases hall : ∀ j, j < m → listed.getD j false = true
    · -- the calm part is over
      have hst : St X γ H (states all V t0 m) (bornAt E (fun _ => true) σ m) a w := St.withT (by have h9 := sst; rw [bornAt_congr (S' := fun _ => true) m (fun j hj _ => hall j hj)] at h9; exact h9) (fun i b hi => htab i b (by
        rw [look_states] at hi
        rw [← hi]
        simp only [tabAt]
        rw [lastW_congr m (fun j hj _ => hall j hj)]))
      have h0 : ((List.range m).filter fun j => !listed.getD j false) = [] := List.filter_eq_nil_iff.2 fun j hj => by simp only [hall j (List.mem_range.1 hj)]; simp
      rw [h0] at hcount
      simp only [List.length_nil, Nat.zero_add] at hcount
      have := hend γ H a w listed hst hs (fun j hj => by
        by_cases hj' : j < m
        · rw [hall j hj']; simp [hj']
        · rw [htail j (by omega)]; simp; omega)
      rw [hcount] at this
      exact this
    · refine ⟨fun hn => ?_, fun i hi => ?_⟩
      · -- the least that is not listed is ready
        exfalso
        have hex : ∃ j, j < m ∧ listed.getD j false = false := by
          refine Classical.byContradiction fun hno => hall fun j hj => ?_
          cases hx : listed.getD j false with
          | true => rfl
          | false => exact absurd ⟨j, hj, hx⟩ hno
        have hmin : ∃ j, j < m ∧ listed.getD j false = false ∧ ∀ i, i < j → listed.getD i false = true := by
          obtain ⟨j, hj⟩ := hex
          induction j using Nat.strongRecOn with
          | _ j ihj =>
            by_cases hlow : ∀ i, i < j → listed.getD i false = true
            · exact ⟨j, hj.1, hj.2, hlow⟩
            · have : ∃ i, i < j ∧ listed.getD i false = false := by
                refine Classical.byContradiction fun hno => hlow fun i hi => ?_
                cases hx : listed.getD i false with
                | true => rfl
                | false => exact absurd ⟨i, hi, hx⟩ hno
              obtain ⟨i, hi, hx⟩ := this
              exact ihj i hi ⟨by omega, hx⟩
        obtain ⟨j, hj, hjl, hlow⟩ := hmin
        have hjn : j < all.size := by omega
        have hmem' : j ∈ Region.ready .any all listed := by
          rw [mem_ready]
          refine ⟨?_, all[j], by simp [hjn], fun e he hb => hlow _ (hc.back j all[j] (by simp [hjn]) e he hb)⟩
          rw [Array.getD_eq_getD_getElem?] at hjl ⊢
          rw [Array.getElem?_eq_getElem (by omega)] at hjl ⊢
          simpa using hjl
        rw [hn] at hmem'; cases hmem'
      · obtain ⟨h1, o, ho, h2⟩ := ready_sound hi
        obtain ⟨hil, hif⟩ := getD_of h1
        have hin : i < all.size := (Array.getElem?_eq_some_iff.1 ho).1
        have him : i < m := by
          refine Classical.byContradiction fun hge => hall fun j hj => ?_
          exact anc_listed hclosed (hc.tail i o ho (by omega) j hj) ho h2
        -- who writes what i names: listed just if it stands ahead
        have hwr : ∀ x, namesT all o x = true → ∀ j, j < m → dstAt all j = some x → listed.getD j false = decide (j < i) := by
          intro x hx j hj hd'
          cases hp : all[j]? with
          | none => simp [dstAt, hp] at hd'
          | some p =>
            simp only [dstAt, hp, Option.bind_some] at hd'
            by_cases hji : j < i
            · rcases hc.names i o him ho j p hji hp with h3 | ⟨h3, _⟩
              · rw [edge_listed h3 h2]; simp [hji]
              · rw [h3 x hd'] at hx; cases hx
            · by_cases e : j = i
              · subst e; rw [hif]; simp
              · rcases hc.names j p hj hp i o (by omega) ho with h3 | ⟨_, h3⟩
                · cases hlj : listed.getD j false with
                  | false => simp; omega
                  | true =>
                    have := edge_listed h3 (hclosed j p hlj hp)
                    rw [hif] at this; cases this
                · rw [h3 x hd'] at hx; cases hx
        have htab_i : ∀ x, namesT all o x = true → tabAt all V t0 (fun j => listed.getD j false) m x = look x (states all V t0 i) := by
          intro x hx
          rw [look_states]
          simp only [tabAt]
          rw [lastW_congr m (fun j hj hd' => hwr x hx j hj hd'), lastW_top m (by omega)]
        have hopnd : ∀ x, x ∈ o.op.operands → ∀ v, ge (states all V t0 i) x = some v → Rep γ H v (a.eval x) := by
          intro x hx v hv
          cases x with
          | tmp y =>
            have hy : namesT all o y = true := by
              simp only [namesT, Bool.or_eq_true]
              exact .inl (.inr (List.any_eq_true.2 ⟨_, Array.mem_toList_iff.2 hx, by simp [hasT]⟩))
            obtain ⟨u, hu, hr⟩ := htab y v (by rw [htab_i y hy]; exact hv)
            simp only [Act.eval, Array.getD_eq_getD_getElem?, hu, Option.getD_some]
            exact hr
          | const c => simp only [ge, Option.some.injEq] at hv; subst hv; exact rep_const γ H c
          | func f => simp only [ge, Option.some.injEq] at hv; subst hv; exact .d _ _ (.fn f [] [] rfl (fun j a u h1 => by simp at h1))
          | global g => simp [ge] at hv
        obtain ⟨hos, hdok⟩ := hstep i o him ho
        -- behind it
        have hnextG : ∀ v γ' H' w', TabOk γ' H' (tabAt all V t0 (fun j => listed.getD j false) m) a.tmps → Rep γ' H' (V i) v →
            St X γ' H' [] (bornAt E (fun j => (listed.setIfInBounds i true).getD j false) σ m) (a.put o.dst v) w' → wpAnyIn (Fr X.ro) 0 X.P .any all Q' fuel (listed.setIfInBounds i true) (a.put o.dst v) w' := by
          intro v γ' H' w' htab' hr sst'
          refine ih _ γ' H' _ w' (by simpa using hs) (fun j hj => ?_) (fun j p hj hp e he hb => ?_) ?_ ?_ sst'
          · rw [getD_set_ne false (by omega)]; exact htail j hj
          · by_cases e' : i = j
            · subst e'
              rw [ho] at hp; simp only [Option.some.injEq] at hp; subst hp
              exact getD_set_true (h2 e he hb)
            · rw [getD_set_ne false e'] at hj
              exact getD_set_true (hclosed j p hj hp e he hb)
          · have hf : ((List.range m).filter fun j => !listed.getD j false).length = ((List.range m).filter fun j => !(listed.setIfInBounds i true).getD j false).length + 1 := by
              have h5 : ∀ (l : List Nat), l.Nodup → i ∈ l → (l.filter fun j => !listed.getD j false).length = (l.filter fun j => !(listed.setIfInBounds i true).getD j false).length + 1 := by
                intro l
                induction l with
                | nil => intro _ h; cases h
                | cons b l ihl =>
                  intro hnd hmem'
                  rw [List.nodup_cons] at hnd
                  by_cases e : i = b
                  · subst e
                    have h6 : (listed.setIfInBounds i true).getD i false = true := by
                      rw [Array.getD_eq_getD_getElem?]; simp [hil]
                    have h7 : (l.filter fun j => !listed.getD j false) = (l.filter fun j => !(listed.setIfInBounds i true).getD j false) := by
                      refine List.filter_congr fun j hj => ?_
                      have hne : i ≠ j := fun e => hnd.1 (e ▸ hj)
                      rw [getD_set_ne false hne]
                    simp only [List.filter_cons, hif, h6, Bool.not_false, Bool.not_true, if_true, h7, List.length_cons, Bool.false_eq_true, if_false]
                  · have h6 := getD_set_ne (listed := listed) false e
                    have h7 := ihl hnd.2 (by rcases List.mem_cons.1 hmem' with h | h; exact absurd h e; exact h)
                    simp only [List.filter_cons, h6]
                    split <;> simp only [List.length_cons, h7]
              exact h5 _ List.nodup_range (List.mem_range.2 him)
            omega
          · -- the table
            intro x b hx
            by_cases hxd : o.dst = some x
            · have hlw : tabAt all V t0 (fun j => (listed.setIfInBounds i true).getD j false) m x = some (V i) := by
                have hnx : namesT all o x = true := by simp [namesT, hxd]
                simp only [tabAt]
                have : lastW all (fun j => (listed.setIfInBounds i true).getD j false) x m = lastW all (fun j => decide (j < i + 1)) x m := by
                  refine lastW_congr m fun j hj hd' => ?_
                  by_cases e : i = j
                  · subst e; rw [Array.getD_eq_getD_getElem?]; simp [hil]
                  · show (listed.setIfInBounds i true).getD j false = _
                    rw [getD_set_ne false e, hwr x hnx j hj hd']
                    simp; omega
                rw [this, lastW_top m (by omega)]
                have hda : dstAt all i = some x := by simp [dstAt, ho, hxd]
                simp [lastW, hda]
              rw [hlw] at hx
              simp only [Option.some.injEq] at hx
              subst hx
              have hlt : x < a.tmps.size := by have := sst.size; rw [hxd] at hdok; simp only [dOk, Nat.blt_eq] at hdok; omega
              exact ⟨v, by rw [hxd]; simp [Act.put, hlt], hr⟩
            · have hlw : tabAt all V t0 (fun j => (listed.setIfInBounds i true).getD j false) m x = tabAt all V t0 (fun j => listed.getD j false) m x := by
                simp only [tabAt]
                rw [lastW_congr m fun j hj hd' => ?_]
                have e : i ≠ j := fun e => by subst e; simp [dstAt, ho] at hd'; exact hxd hd'
                exact getD_set_ne false e
              rw [hlw] at hx
              obtain ⟨u, hu, hr'⟩ := htab' x b hx
              refine ⟨u, ?_, hr'⟩
              cases hod : o.dst with
              | none => simpa [Act.put, hod] using hu
              | some d =>
                have hne : d ≠ x := fun e => hxd (by rw [hod, e])
                simp only [Act.put]
                rw [Array.getElem?_setIfInBounds, if_neg hne]; exact hu
        have hnext : E i = none → ∀ v γ' σ' H' w', Mem w H (fun _ => False) γ' H' σ' w' → Rep γ H' (V i) v → wpAnyIn (Fr X.ro) 0 X.P .any all Q' fuel (listed.setIfInBounds i true) (a.put o.dst v) w' := by
          intro hE v γ' σ' H' w' hm' hr
          refine hnextG v γ H' w' (fun x b hx => let ⟨u, hu, r⟩ := htab x b hx; ⟨u, hu, r.mono hm'.hle⟩) hr ?_
          have h9 := sst.calm (d := o.dst) hm' hdok hr
          rw [bornAt_congr (S' := fun j => listed.getD j false) m (fun j hj hne => by
            have e' : i ≠ j := fun e => by subst e; exact hne hE
            exact getD_set_ne false e')]
          exact h9.wk (Wk.nil _) (Wk.refl _)
        have hmemσ : Mem X.w0 X.H0 X.B γ H σ w := sst.mem.wk (fun x e hx => bornAt_old hx (fun i' y e' hE' => fun hyx => by
          have := (fresh_s (hfr i' y e' hE').1 hx).1
          exact this hyx.symm) m)
        -- its guard
        have hguard : ∀ j b' d b, o.guard = some (j, b') → ((all[j]?).bind (·.dst)) = some d → look d (states all V t0 i) = some (.d (.v (.bool b))) → yielded all a.tmps j = some b := by
          intro j b' d b hg hd' hl
          have hnd : namesT all o d = true := by simp [namesT, hg, hd']
          obtain ⟨u, hu, hr⟩ := htab d _ (by rw [htab_i d hnd]; exact hl)
          have := rep_v hr
          subst this
          simp [yielded, hd', hu]
        have hguardU : ∀ j b' d, o.guard = some (j, b') → ((all[j]?).bind (·.dst)) = some d → look d (states all V t0 i) = some (.tup []) → yielded all a.tmps j = none := by
          intro j b' d hg hd' hl
          have hnd : namesT all o d = true := by simp [namesT, hg, hd']
          obtain ⟨u, hu, hr⟩ := htab d _ (by rw [htab_i d hnd]; exact hl)
          have := rep_undef_eq hr
          subst this
          simp [yielded, hd', hu, undef]
        unfold wpOpIn
        simp only [ho]
        rcases hos with ⟨hE, ⟨hg, hq⟩ | ⟨j, b, d, hg, hd', hl, hq⟩ | ⟨j, b, b', d, hg, hd', hl, hne, hV⟩ | ⟨j, b, d, hg, hd', hl, hV⟩⟩ | ⟨id, cs, hg, hnj, hV, hE, hc2⟩
        · have hw : Region.wanted o (yielded all a.tmps) = true := by simp [Region.wanted, hg]
          rw [if_pos hw]
          exact ⟨fun _ _ => trivial, hq γ H a w sst.lam hopnd hmemσ _ _ (hnext hE)⟩
        · have hw : Region.wanted o (yielded all a.tmps) = true := by simp [Region.wanted, hg, hguard j b d b hg hd' hl]
          rw [if_pos hw]
          exact ⟨fun _ _ => trivial, hq γ H a w sst.lam hopnd hmemσ _ _ (hnext hE)⟩
        · have hw : Region.wanted o (yielded all a.tmps) = false := by simp [Region.wanted, hg, hguard j b d b' hg hd' hl, hne]
          simp only [hw, Bool.false_eq_true, if_false]
          exact ⟨fun _ _ => trivial, hnext hE undef γ [] H w (sst.mem.refl γ) (by rw [hV]; exact rep_undef)⟩
        · have hw : Region.wanted o (yielded all a.tmps) = false := by simp [Region.wanted, hg, hguardU j b d hg hd' hl]
          simp only [hw, Bool.false_eq_true, if_false]
          exact ⟨fun _ _ => trivial, hnext hE undef γ [] H w (sst.mem.refl γ) (by rw [hV]; exact rep_undef)⟩
        · have hw : Region.wanted o (yielded all a.tmps) = true := by simp [Region.wanted, hg]
          rw [if_pos hw]
          refine ⟨fun _ _ => trivial, ?_⟩
          obtain ⟨us, e, hrun, hl, hr⟩ := hnj γ H a w hopnd
          rw [show (Fr X.ro).round = X.ro from rfl, hrun, Oper.uponIn_value]
          obtain ⟨f2, f3, f4⟩ := hfr i id _ hE
          have hfb : isFresh id [] (bornAt E (fun j => listed.getD j false) σ m) X.pin = true := by
            simp only [isFresh, Bool.and_eq_true, List.all_eq_true] at f2 ⊢
            refine ⟨⟨fun p hp => by simp at hp, fun p hp => ?_⟩, f2.2⟩
            rcases bornAt_mem m hp with h7 | ⟨j, _, h8, h9⟩
            · simpa using f2.1.2 p h7
            · obtain ⟨y, f⟩ := p
              obtain ⟨g1, g2⟩ := f4 j y f (fun e => by subst e; rw [hif] at h8; cases h8) h9
              have : Nat.beq id y = false := by rw [← Bool.not_eq_true, Nat.beq_eq]; exact fun h => g1 h.symm
              simp [this, g2]
          have hnew := newCells (dd := o.dst) (e := e) sst hfb hdok hl hr hc2
          refine hnextG _ (upd γ id ⟨w.heap.size, 0, fun _ => False⟩) H _ ?_ ?_ ?_
          · intro x b hx
            obtain ⟨u, hu', r⟩ := htab x b hx
            refine ⟨u, hu', rep_upd r ?_⟩
            simp only [tabAt] at hx
            split at hx
            · next j hj =>
              simp only [Option.some.injEq] at hx; subst hx
              obtain ⟨h7, h8, h9⟩ := lastW_spec m j hj
              exact f3 j x h7 (fun e => by subst e; rw [hif] at h8; cases h8) h9
            · exact fresh_t f2 hx
          · rw [hV]
            have := Rep.box (γ := upd γ id ⟨w.heap.size, 0, fun _ => False⟩) (H := H) id 0
            rw [upd_same] at this; exact this
          · refine hnew.wk (Wk.nil _) fun x f hx => ?_
            rw [look_cons]
            rcases bornAt_lookup m hx with ⟨j, hjm, hj, hEj⟩ | hx
            · by_cases e' : j = i
              · subst e'
                rw [hE] at hEj
                simp only [Option.some.injEq, Prod.mk.injEq] at hEj
                rw [if_pos hEj.1.symm, hEj.2]
              · have hne := (f4 j x f e' hEj).1
                rw [if_neg hne]
                refine bornAt_look (fun i1 j1 y e1 e2 h1' h2' => Classical.byContradiction fun hne' => (((hfr i1 y e1 h1').2.2 j1 y e2 (fun h => hne' h.symm) h2').1 rfl)) m hjm ?_ hEj
                rw [getD_set_ne false (fun h => e' h.symm)] at hj; exact hj
            · have hne := (fresh_s f2 hx).1
              rw [if_neg hne]
              exact bornAt_old hx (fun i' y e' hE' => fun hyx => by
                have := (fresh_s (hfr i' y e' hE').1 hx).1
                exact this hyx.symm) m

def CB (X : Cx) (all : Array Oper) (σ : Sg) (Q : T → Sg → Prop) : List Oper → T → Sg → Prop
  | [], t, bs => ∃ t', Wk t' t ∧ Q t' (bs ++ σ)
  | o :: rest, t, bs =>
    (∃ V, OStep X all o t σ V ∧ dOk o.dst X.N = true ∧ bs.all (fun p => !has2 p.1 V) = true ∧ CB X all σ Q rest (putT o.dst V t) bs) ∨
    (∃ id cs, o.dst = some id ∧ o.guard = none ∧ NewJ X o t cs ∧ cs.any (has2 id) = false ∧ dOk (some id) X.N = true ∧
      isFresh id t (bs ++ σ) X.pin = true ∧ bs.all (fun p => !entHas p.1 (.cells cs)) = true ∧ CB X all σ Q rest ((id, .box id 0) :: t) ((id, .cells cs) :: bs))

section
variable {X : Cx} {all : Array Oper} {rest : List Oper} {t : T} {σ bs : Sg} {Q : T → Sg → Prop} {o : Oper}
theorem CB.done (h : Q t (bs ++ σ)) : CB X all σ Q [] t bs := ⟨t, Wk.refl t, h⟩
theorem CB.q {V : AV} (hg : o.guard = none) (h : QJ X o t σ V) (hN : dOk o.dst X.N = true) (hb : bs.all (fun p => !has2 p.1 V) = true) (k : CB X all σ Q rest (putT o.dst V t) bs) : CB X all σ Q (o :: rest) t bs := .inl ⟨V, .inl ⟨hg, h⟩, hN, hb, k⟩
theorem CB.qy {V : AV} {j : Nat} {b : Bool} {d : Nat} (hg : o.guard = some (j, b)) (hd : ((all[j]?).bind (·.dst)) = some d) (hl : look d t = some (.d (.v (.bool b)))) (h : QJ X o t σ V) (hN : dOk o.dst X.N = true)
    (hb : bs.all (fun p => !has2 p.1 V) = true) (k : CB X all σ Q rest (putT o.dst V t) bs) : CB X all σ Q (o :: rest) t bs := .inl ⟨V, .inr (.inl ⟨j, b, d, hg, hd, hl, h⟩), hN, hb, k⟩
theorem CB.no {j : Nat} {b b' : Bool} {d : Nat} (hg : o.guard = some (j, b)) (hd : ((all[j]?).bind (·.dst)) = some d) (hl : look d t = some (.d (.v (.bool b')))) (hne : (b' == b) = false) (hN : dOk o.dst X.N = true)
    (k : CB X all σ Q rest (putT o.dst (.tup []) t) bs) : CB X all σ Q (o :: rest) t bs := .inl ⟨.tup [], .inr (.inr (.inl ⟨j, b, b', d, hg, hd, hl, by simpa using hne, rfl⟩)), hN, by simp [has2], k⟩
theorem CB.noU {j : Nat} {b : Bool} {d : Nat} (hg : o.guard = some (j, b)) (hd : ((all[j]?).bind (·.dst)) = some d) (hl : look d t = some (.tup [])) (hN : dOk o.dst X.N = true)
    (k : CB X all σ Q rest (putT o.dst (.tup []) t) bs) : CB X all σ Q (o :: rest) t bs := .inl ⟨.tup [], .inr (.inr (.inr ⟨j, b, d, hg, hd, hl, rfl⟩)), hN, by simp [has2], k⟩
theorem CB.born {id : Nat} {cs : List AV} (hd : o.dst = some id) (hg : o.guard = none) (hn : NewJ X o t cs) (hc : cs.any (has2 id) = false) (hN : dOk (some id) X.N = true)
    (hf : isFresh id t (bs ++ σ) X.pin = true) (hb : bs.all (fun p => !entHas p.1 (.cells cs)) = true) (k : CB X all σ Q rest ((id, .box id 0) :: t) ((id, .cells cs) :: bs)) :
    CB X all σ Q (o :: rest) t bs := .inr ⟨id, cs, hd, hg, hn, hc, hN, hf, hb, k⟩
theorem isFresh_wkT {id : Nat} {t t' : T} {σ : Sg} {pin : List Nat} (h : isFresh id t σ pin = true) (hw : ∀ p, p ∈ t' → p ∈ t) : isFresh id t' σ pin = true := by
  simp only [isFresh, Bool.and_eq_true, List.all_eq_true] at h ⊢
  exact ⟨⟨fun p hp => h.1.1 p (hw p hp), h.1.2⟩, h.2⟩
end

def consO : Option (Nat × Ent) → Sg → Sg
  | some q, bs => q :: bs
  | none, bs => bs
def bornFrom (E : Nat → Option (Nat × Ent)) (k : Nat) (bs : Sg) : Nat → Sg
  | 0 => bs
  | j + 1 => match E (k + j) with
    | some p => p :: bornFrom E k bs j
    | none => bornFrom E k bs j
theorem bornFrom_congr {E E' : Nat → Option (Nat × Ent)} {k : Nat} {bs : Sg} : ∀ j, (∀ i, k ≤ i → i < k + j → E i = E' i) → bornFrom E k bs j = bornFrom E' k bs j
  | 0, _ => rfl
  | j + 1, h => by
    simp only [bornFrom]
    rw [h (k + j) (by omega) (by omega), bornFrom_congr j (fun i h1 h2 => h i h1 (by omega))]
theorem bornFrom_succ {E : Nat → Option (Nat × Ent)} {k : Nat} {bs : Sg} : ∀ j, bornFrom E k bs (j + 1) = bornFrom E (k + 1) (consO (E k) bs) j
  | 0 => by simp only [bornFrom, Nat.add_zero]; cases E k <;> rfl
  | j + 1 => by
    rw [bornFrom, bornFrom_succ j, bornFrom]
    rw [show k + (j + 1) = k + 1 + j from by omega]
theorem bornAt_all {E : Nat → Option (Nat × Ent)} {σ : Sg} : ∀ j, bornAt E (fun _ => true) σ j = bornFrom E 0 [] j ++ σ
  | 0 => rfl
  | j + 1 => by
    simp only [bornAt, bornFrom, Nat.zero_add, if_true]
    rw [bornAt_all j]
    cases E j <;> rfl

theorem fresh_tail {id : Nat} {p : Nat × AV} {t : T} {σ : Sg} {pin : List Nat} (h : isFresh id (p :: t) σ pin = true) : isFresh id t σ pin = true ∧ has2 id p.2 = false := by
  simp only [isFresh, List.all_cons, Bool.and_eq_true] at h ⊢
  exact ⟨⟨⟨h.1.1.2, h.1.2⟩, h.2⟩, by simpa using h.1.1.1⟩
theorem fresh_putT {id : Nat} {d : Option Nat} {V : AV} {t : T} {σ : Sg} {pin : List Nat} (h : isFresh id (putT d V t) σ pin = true) : isFresh id t σ pin = true ∧ (∀ x, d = some x → has2 id V = false) := by
  cases d with
  | none => exact ⟨h, fun x hx => by cases hx⟩
  | some d => exact ⟨(fresh_tail h).1, fun _ _ => (fresh_tail h).2⟩
theorem fresh_sg {id : Nat} {p : Nat × Ent} {t : T} {σ : Sg} {pin : List Nat} (h : isFresh id t (p :: σ) pin = true) : isFresh id t σ pin = true ∧ id ≠ p.1 ∧ entHas id p.2 = false := by
  simp only [isFresh, List.all_cons, Bool.and_eq_true, Bool.not_eq_true'] at h ⊢
  exact ⟨⟨⟨h.1.1, h.1.2.2⟩, h.2⟩, (fun e => by rw [e] at h; simp at h), h.1.2.1.2⟩

def Tabled (X : Cx) (all : Array Oper) (σ : Sg) (Q : T → Sg → Prop) (rest : List Oper) (k : Nat) (t : T) (bs : Sg) : Prop :=
    ∃ (V : Nat → AV) (E : Nat → Option (Nat × Ent)), (∀ j o, j < rest.length → all[k + j]? = some o → BStep X all o (statesFrom all V t k j) σ (V (k + j)) (E (k + j)) ∧ dOk o.dst X.N = true) ∧
      (∃ t', Wk t' (statesFrom all V t k rest.length) ∧ Q t' (bornFrom E k bs rest.length ++ σ)) ∧
      (∀ j id e, j < rest.length → E (k + j) = some (id, e) → isFresh id t (bs ++ σ) X.pin = true) ∧
      (∀ j j' x id e, j < rest.length → j' < rest.length → j' ≠ j → E (k + j) = some (id, e) → dstAt all (k + j') = some x → has2 id (V (k + j')) = false) ∧
      (∀ j j' id e id' e', j < rest.length → j' < rest.length → j' ≠ j → E (k + j) = some (id, e) → E (k + j') = some (id', e') → id' ≠ id ∧ entHas id e' = false) ∧
      (∀ p, p ∈ bs → ∀ j, j < rest.length → (∀ x, dstAt all (k + j) = some x → has2 p.1 (V (k + j)) = false) ∧ ∀ id e, E (k + j) = some (id, e) → id ≠ p.1 ∧ entHas p.1 e = false)

theorem CB.table {X : Cx} {all : Array Oper} {σ : Sg} {Q : T → Sg → Prop} : ∀ (rest : List Oper) (k : Nat) (t : T) (bs : Sg), (∀ j, j < rest.length → all[k + j]? = rest[j]?) → CB X all σ Q rest t bs → Tabled X all σ Q rest k t bs
  | [], k, t, bs, _, h => by
    unfold Tabled
    exact ⟨fun _ => .junk, fun _ => none, fun j o hj => by simp at hj, h, fun j id e hj => by simp at hj, fun j j' x id e hj => by simp at hj, fun j j' id e id' e' hj => by simp at hj, fun p _ j hj => by simp at hj⟩
  | p :: rest, k, t, bs, ha, h => by
    have hk : all[k]? = some p := by simpa using ha 0 (by simp)
    have hdk : dstAt all k = p.dst := by simp [dstAt, hk]
    have ha' : ∀ j, j < rest.length → all[k + 1 + j]? = rest[j]? := fun j hj => by have := ha (j + 1) (by simp; omega); rw [show k + 1 + j = k + (j + 1) from by omega]; simpa using this
    have key : ∀ (V0 : AV) (E0 : Option (Nat × Ent)), BStep X all p t σ V0 E0 → dOk p.dst X.N = true → CB X all σ Q rest (putT p.dst V0 t) (consO E0 bs) →
        (∀ id e, E0 = some (id, e) → isFresh id t (bs ++ σ) X.pin = true) →
        (∀ q, q ∈ bs → (∀ x, p.dst = some x → has2 q.1 V0 = false) ∧ ∀ id e, E0 = some (id, e) → id ≠ q.1 ∧ entHas q.1 e = false) → Tabled X all σ Q (p :: rest) k t bs := by
      intro V0 E0 hB hdok h4 hE0 hbs
      have ih := CB.table rest (k + 1) _ _ ha' h4
      unfold Tabled at ih ⊢
      obtain ⟨V', E', i1, ⟨t', i2, i3⟩, ia, ib, ic, id_⟩ := ih
      have hV : ∀ j, statesFrom all (fun i => if i = k then V0 else V' i) t k (j + 1) = statesFrom all V' (putT p.dst V0 t) (k + 1) j := fun j => by
        rw [statesFrom_succ, hdk]
        simp only [if_true]
        exact statesFrom_congr j fun i h7 h8 => if_neg (by omega)
      have hEE : ∀ j, bornFrom (fun i => if i = k then E0 else E' i) k bs (j + 1) = bornFrom E' (k + 1) (consO E0 bs) j := fun j => by
        rw [bornFrom_succ]
        simp only [if_true]
        exact bornFrom_congr (E := fun i => if i = k then E0 else E' i) (E' := E') j fun i h7 h8 => if_neg (by omega)
      have hne : ∀ j, k + (j + 1) ≠ k := fun j => by omega
      have hadd : ∀ j, k + (j + 1) = k + 1 + j := fun j => by omega
      have freshL : ∀ id, isFresh id (putT p.dst V0 t) ((consO E0 bs) ++ σ) X.pin = true → isFresh id t (bs ++ σ) X.pin = true ∧ (∀ x, p.dst = some x → has2 id V0 = false) ∧ ∀ id' e', E0 = some (id', e') → id' ≠ id ∧ entHas id e' = false := by
        intro id hf
        obtain ⟨g1, g2⟩ := fresh_putT hf
        cases E0 with
        | none => exact ⟨g1, g2, fun _ _ h => by cases h⟩
        | some q =>
          obtain ⟨g3, g4, g5⟩ := fresh_sg (p := q) (σ := bs ++ σ) g1
          exact ⟨g3, g2, fun id' e' h => by cases h; exact ⟨fun h => g4 h.symm, g5⟩⟩
      refine ⟨fun i => if i = k then V0 else V' i, fun i => if i = k then E0 else E' i, ?_, ⟨t', by rw [List.length_cons, hV]; exact i2, by rw [List.length_cons, hEE]; exact i3⟩, ?_, ?_, ?_, ?_⟩
      · intro j o hj ho
        cases j with
        | zero =>
          rw [Nat.add_zero, hk] at ho
          simp only [Option.some.injEq] at ho
          subst ho
          simp only [Nat.add_zero, if_true, statesFrom]
          exact ⟨hB, hdok⟩
        | succ j =>
          rw [hV]
          simp only [if_neg (hne j)]
          have := i1 j o (by simpa using hj) (by rw [← hadd j]; exact ho)
          rw [hadd j]; exact this
      · intro j id e hj hE
        cases j with
        | zero =>
          simp only [Nat.add_zero, if_true] at hE
          exact hE0 id e hE
        | succ j =>
          simp only [if_neg (hne j)] at hE; rw [hadd j] at hE
          have g2 := ia j id e (by simpa using hj) hE
          exact (freshL id g2).1
      · intro j j' x id e hj hj' hjj hE hx
        cases j with
        | zero =>
          simp only [Nat.add_zero, if_true] at hE
          cases j' with
          | zero => exact absurd rfl hjj
          | succ j' =>
            simp only [if_neg (hne j')] at hx ⊢; rw [hadd j'] at hx ⊢
            exact (id_ (id, e) (by rw [hE]; simp [consO]) j' (by simpa using hj')).1 x hx
        | succ j =>
          simp only [if_neg (hne j)] at hE; rw [hadd j] at hE
          cases j' with
          | zero =>
            simp only [Nat.add_zero, if_true] at hx ⊢
            exact (freshL id (ia j id e (by simpa using hj) hE)).2.1 x (by rw [← hdk]; exact hx)
          | succ j' =>
            simp only [if_neg (hne j')] at hx ⊢; rw [hadd j'] at hx ⊢
            exact ib j j' x id e (by simpa using hj) (by simpa using hj') (by omega) hE hx
      · intro j j' id e id' e' hj hj' hjj hE hE'
        cases j with
        | zero =>
          simp only [Nat.add_zero, if_true] at hE
          cases j' with
          | zero => exact absurd rfl hjj
          | succ j' =>
            simp only [if_neg (hne j')] at hE'; rw [hadd j'] at hE'
            exact (id_ (id, e) (by rw [hE]; simp [consO]) j' (by simpa using hj')).2 id' e' hE'
        | succ j =>
          simp only [if_neg (hne j)] at hE; rw [hadd j] at hE
          cases j' with
          | zero =>
            simp only [Nat.add_zero, if_true] at hE'
            exact (freshL id (ia j id e (by simpa using hj) hE)).2.2 id' e' hE'
          | succ j' =>
            simp only [if_neg (hne j')] at hE'; rw [hadd j'] at hE'
            exact ic j j' id e id' e' (by simpa using hj) (by simpa using hj') (by omega) hE hE'
      · intro q hq j hj
        cases j with
        | zero =>
          simp only [Nat.add_zero, if_true]
          exact ⟨fun x hx => (hbs q hq).1 x (by rw [← hdk]; exact hx), (hbs q hq).2⟩
        | succ j =>
          simp only [if_neg (hne j)]; rw [hadd j]
          exact id_ q (by cases E0 <;> simp [consO, hq]) j (by simpa using hj)
    rcases h with ⟨V0, h1, h2, h3, h4⟩ | ⟨id0, cs0, hd, hg, hnj, hc, hN, hf, hb, h4⟩
    · refine key V0 none (.inl ⟨rfl, h1⟩) h2 h4 (fun id e h => by cases h) fun q hq => ⟨fun x _ => ?_, fun id e h => by cases h⟩
      have := List.all_eq_true.1 h3 q hq
      simpa using this
    · refine key (.box id0 0) (some (id0, .cells cs0)) (.inr ⟨id0, cs0, hg, hnj, rfl, rfl, hc⟩) (by rw [hd]; exact hN) (by rw [hd]; exact h4) (fun id e h => by cases h; exact hf) fun q hq => ?_
      have hne : id0 ≠ q.1 := by
        have h7 := hf
        simp only [isFresh, Bool.and_eq_true, List.all_eq_true] at h7
        have := h7.1.2 q (by simp [hq])
        intro e; rw [e] at this; simp at this
      refine ⟨fun x _ => ?_, fun id e h => ?_⟩
      · have : Nat.beq q.1 id0 = false := by rw [← Bool.not_eq_true, Nat.beq_eq]; exact fun h => hne h.symm
        simp [has2, has1, has0, this]
      · cases h
        have := List.all_eq_true.1 hb q hq
        exact ⟨hne, by simpa using this⟩

/-- **A region that draws its order, in which variables are born**; from the m-th operation on any way. -/
theorem WJ.calmG {X : Cx} {id : Nat} {ops : Array Oper} {t : T} {σ : Sg} {R : T → Sg → Prop} {Q' : Exit → Act → World → Prop} (m : Nat) (hm : X.P.follows .mixedOrders = true) (hc : CalmR ops m) (hle : m ≤ ops.size)
    (hend : ∀ t σ, R t σ → ∀ γ H a w listed, St X γ H t σ a w → listed.size = ops.size → (∀ j, j < ops.size → listed.getD j false = decide (j < m)) → wpAnyIn (Fr X.ro) 0 X.P .any ops Q' (ops.size - m) listed a w)
    (h : CB X ops σ R (ops.toList.take m) t []) : ∀ γ H a w, St X γ H t σ a w → (Code.region id ops true).wpIn (Fr X.ro) 0 X.P Q' a w := by
  intro γ H a w s
  refine wpIn_region_any hm ?_
  have hlen : (ops.toList.take m).length = m := by simp; omega
  have tb := CB.table (ops.toList.take m) 0 t [] (fun j hj => by rw [hlen] at hj; rw [Nat.zero_add, List.getElem?_take, if_pos hj]; simp) h
  unfold Tabled at tb
  obtain ⟨V, E, h1, ⟨t', h2, h3⟩, ha, hb, hc', _⟩ := tb
  simp only [hlen, Nat.zero_add] at h1 h2 h3 ha hb hc'
  have s' : St X γ H t σ a { w with drawn := w.drawn + 1 } := ⟨s.lam, s.round, s.defers, s.size, s.pinned, s.tmp, s.mem.drew⟩
  have hall : ∀ j, (Array.replicate ops.size false).getD j false = false := fun j => by
    rw [Array.getD_eq_getD_getElem?, Array.getElem?_replicate]; split <;> rfl
  refine calm_anyB hc hle (V := V) (E := fun i => if i < m then E i else none) (fun i o hi ho => by
    have := h1 i o hi ho
    rw [statesFrom_zero] at this
    simp only [if_pos hi]; exact this) (fun i id e hE => ?_) (fun γ H a w lst st hls hlst => ?_) ops.size _ γ H a _ (by simp) (fun j _ => hall j) (fun i o hi => by rw [hall i] at hi; cases hi) ?_ ?_ ?_
  · have him : i < m := by
      refine Classical.byContradiction fun hge => ?_
      rw [if_neg hge] at hE; cases hE
    simp only [if_pos him] at hE
    have g2 := ha i id e him hE
    refine ⟨g2, fun j x hj hne hx => hb i j x id e him hj hne hE hx, fun j id' e' hne hE' => ?_⟩
    by_cases hj : j < m
    · rw [if_pos hj] at hE'
      exact hc' i j id e id' e' him hj hne hE hE'
    · rw [if_neg hj] at hE'; cases hE'
  · have hbe : bornAt (fun i => if i < m then E i else none) (fun _ => true) σ m = bornFrom E 0 [] m ++ σ := by
      rw [bornAt_all]
      congr 1
      exact bornFrom_congr m fun i _ hi => if_pos (by omega)
    rw [hbe] at st
    have hst : St X γ H t' (bornFrom E 0 [] m ++ σ) a w := st.wk (by rw [statesFrom_zero] at h2; exact h2) (Wk.refl _)
    exact hend _ _ h3 γ H a w lst hst hls hlst
  · have : ((List.range m).filter fun j => !(Array.replicate ops.size false).getD j false) = List.range m := List.filter_eq_self.2 fun j _ => by rw [hall j]; rfl
    rw [this, List.length_range]; omega
  · intro x b hx
    have : lastW ops (fun j => (Array.replicate ops.size false).getD j false) x m = none := by
      have h0 : ∀ k, lastW ops (fun _ => false) x k = none := fun k => by
        induction k with
        | zero => rfl
        | succ k ih => simp [lastW, ih]
      rw [lastW_congr (S' := fun _ => false) m (fun j _ _ => hall j)]; exact h0 m
    simp only [tabAt, this] at hx
    exact s.tmp x b hx
  · have : bornAt (fun i => if i < m then E i else none) (fun j => (Array.replicate ops.size false).getD j false) σ m = σ := by
      have h0 : ∀ k, bornAt (fun i => if i < m then E i else none) (fun _ => false) σ k = σ := fun k => by
        induction k with
        | zero => rfl
        | succ k ih => simp only [bornAt, ih]; split <;> simp
      rw [bornAt_congr (S' := fun _ => false) m (fun j _ _ => hall j)]; exact h0 m
    rw [this]; exact s'.wk (Wk.nil _) (Wk.refl _)
/-- **A region that draws its order, in which variables are born.** -/
theorem WJ.calmB {X : Cx} {id : Nat} {ops : Array Oper} {t : T} {σ : Sg} {Q : Qt} (m : Nat) (hm : X.P.follows .mixedOrders = true) (hc : calmOk ops m = true) (hle : m ≤ ops.size)
    (h : CB X ops σ (fun t σ => LJ X ops m (ops.toList.drop m) t σ (Q .normal)) (ops.toList.take m) t []) : WJ X (.region id ops true) t σ Q :=
  WJ.calmG m hm (calmOk_R hc) hle (fun t σ h3 γ H a w lst hst hls hlst => by
    have := h3 (fun j => by simp) (Post X Q) (fun γ H t σ a w s q => ⟨γ, H, t, σ, s, q⟩) γ H a w hst
    simp only [List.length_drop, Array.length_toList] at this
    exact wpAnyIn_tail hc _ m lst a w (Nat.le_refl _) (by omega) hls hlst this) h
end Go.Gv
