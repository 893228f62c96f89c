/- A region that draws its order: quiet operations first, in whatever order; then those that stand behind all others. -/
import Derived.Test.YthfemmcodfajaaaDoorFwF
import Derived.OrdersIn
set_option linter.unusedVariables false
set_option linter.unusedSimpArgs false
namespace Go.Sv
open Go.RowKit

/-- One operation of a calm region, at its guard. -/
def OStep (X : Cx) (all : Array Oper) (o : Oper) (t : T) (σ : Sg) (V : AV) : Prop :=
  (o.guard = none ∧ QJ X o t σ V) ∨
  (∃ j b d, o.guard = some (j, b) ∧ ((all[j]?).bind (·.dst)) = some d ∧ look d t = some (.d (.v (.bool b))) ∧ QJ X o t σ V) ∨
  (∃ j b b' d, o.guard = some (j, b) ∧ ((all[j]?).bind (·.dst)) = some d ∧ look d t = some (.d (.v (.bool b'))) ∧ b' ≠ b ∧ V = .tup []) ∨
  (∃ j b d, o.guard = some (j, b) ∧ ((all[j]?).bind (·.dst)) = some d ∧ look d t = some (.tup []) ∧ V = .tup [])

def CJ (X : Cx) (all : Array Oper) : List Oper → T → Sg → (T → Sg → Prop) → Prop
  | [], t, σ, Q => ∃ t', Wk t' t ∧ Q t' σ
  | o :: rest, t, σ, Q => ∃ V, OStep X all o t σ V ∧ dOk o.dst X.N = true ∧ CJ X all rest (putT o.dst V t) σ Q

section
variable {X : Cx} {all : Array Oper} {rest : List Oper} {t : T} {σ : Sg} {Q : T → Sg → Prop} {o : Oper}
theorem CJ.done (h : Q t σ) : CJ X all [] t σ Q := ⟨t, Wk.refl t, h⟩
theorem CJ.q {V : AV} (hg : o.guard = none) (h : QJ X o t σ V) (hN : dOk o.dst X.N = true) (k : CJ X all rest (putT o.dst V t) σ Q) : CJ X all (o :: rest) t σ Q := ⟨V, .inl ⟨hg, h⟩, hN, k⟩
theorem CJ.qy {V : AV} {j : Nat} {b : Bool} {d : Nat} (hg : o.guard = some (j, b)) (hd : ((all[j]?).bind (·.dst)) = some d) (hb : look d t = some (.d (.v (.bool b))))
    (h : QJ X o t σ V) (hN : dOk o.dst X.N = true) (k : CJ X all rest (putT o.dst V t) σ Q) : CJ X all (o :: rest) t σ Q := ⟨V, .inr (.inl ⟨j, b, d, hg, hd, hb, h⟩), hN, k⟩
theorem CJ.no {j : Nat} {b b' : Bool} {d : Nat} (hg : o.guard = some (j, b)) (hd : ((all[j]?).bind (·.dst)) = some d) (hb : look d t = some (.d (.v (.bool b')))) (hne : (b' == b) = false)
    (hN : dOk o.dst X.N = true) (k : CJ X all rest (putT o.dst (.tup []) t) σ Q) : CJ X all (o :: rest) t σ Q :=
  ⟨.tup [], .inr (.inr (.inl ⟨j, b, b', d, hg, hd, hb, by simpa using hne, rfl⟩)), hN, k⟩
theorem CJ.noU {j : Nat} {b : Bool} {d : Nat} (hg : o.guard = some (j, b)) (hd : ((all[j]?).bind (·.dst)) = some d) (hb : look d t = some (.tup []))
    (hN : dOk o.dst X.N = true) (k : CJ X all rest (putT o.dst (.tup []) t) σ Q) : CJ X all (o :: rest) t σ Q :=
  ⟨.tup [], .inr (.inr (.inr ⟨j, b, d, hg, hd, hb, rfl⟩)), hN, k⟩

theorem Wk.put {t t' : T} {d : Option Nat} {V : AV} (h : Wk t' t) : Wk (putT d V t') (putT d V t) := by
  cases d with
  | none => exact h
  | some d =>
    intro i a hi
    simp only [putT, look_cons] at hi ⊢
    split
    · next e => rw [if_pos e] at hi; exact hi
    · next e => rw [if_neg e] at hi; exact h i a hi
theorem Wk.trans {α : Type} {a b c : List (Nat × α)} (h : Wk a b) (k : Wk b c) : Wk a c := fun i x hi => k i x (h i x hi)
theorem OStep.wk {t t' : T} {V : AV} (hw : Wk t' t) (h : OStep X all o t' σ V) : OStep X all o t σ V := by
  rcases h with ⟨h1, h2⟩ | ⟨j, b, d, h1, h2, h3, h4⟩ | ⟨j, b, b', d, h1, h2, h3, h4, h5⟩ | ⟨j, b, d, h1, h2, h3, h4⟩
  · exact .inl ⟨h1, h2.wk hw (Wk.refl _)⟩
  · exact .inr (.inl ⟨j, b, d, h1, h2, hw _ _ h3, h4.wk hw (Wk.refl _)⟩)
  · exact .inr (.inr (.inl ⟨j, b, b', d, h1, h2, hw _ _ h3, h4, h5⟩))
  · exact .inr (.inr (.inr ⟨j, b, d, h1, h2, hw _ _ h3, h4⟩))
theorem CJ.wk : ∀ {rest : List Oper} {t t' : T}, Wk t' t → CJ X all rest t' σ Q → CJ X all rest t σ Q
  | [], _, _, hw, ⟨t'', h1, h2⟩ => ⟨t'', h1.trans hw, h2⟩
  | _ :: _, _, _, hw, ⟨V, h1, h2, h3⟩ => ⟨V, h1.wk hw, h2, CJ.wk hw.put h3⟩
theorem CJ.split (i : Nat) {b : Bool} (hb : look i t = some (.d (.v (.bool b)))) (ht : b = true → CJ X all rest ((i, .d (.v (.bool true))) :: t) σ Q)
    (hf : b = false → CJ X all rest ((i, .d (.v (.bool false))) :: t) σ Q) : CJ X all rest t σ Q := by
  cases b with
  | true => exact CJ.wk (Wk.cons hb (Wk.refl t)) (ht rfl)
  | false => exact CJ.wk (Wk.cons hb (Wk.refl t)) (hf rfl)
end

/-! ### Any order -/
def hasT (x : Nat) : Operand → Bool
  | .tmp i => Nat.beq i x
  | _ => false
def namesT (all : Array Oper) (o : Oper) (x : Nat) : Bool :=
  (match o.dst with | some d => Nat.beq d x | none => false) || o.op.operands.toList.any (hasT x) ||
    (match o.guard with | some (j, _) => (match (all[j]?).bind (·.dst) with | some d => Nat.beq d x | none => false) | none => false)
def edge (o : Oper) (j : Nat) : Bool := o.after.toList.any fun e => Nat.beq e.on j && Region.binds .any e
def dstAt (all : Array Oper) (i : Nat) : Option Nat := (all[i]?).bind (·.dst)
/-- Operations that name one temporary stand in an order; edges lead back; from the m-th on each stands behind all that are ahead. -/
def calmOk (all : Array Oper) (m : Nat) : Bool :=
  (List.range all.size).all fun j => match all[j]? with
    | none => true
    | some o => o.after.all (fun e => !Region.binds .any e || Nat.blt e.on j) && (Nat.blt j m || (List.range j).all fun i => edge o i || (Nat.blt i m && (List.range j).any fun x => edge o x && (match all[x]? with | some p => edge p i | none => false))) &&
      (List.range j).all fun i => match all[i]? with
        | none => true
        | some p => edge o i || ((match p.dst with | some x => !namesT all o x | none => true) && (match o.dst with | some x => !namesT all p x | none => true))

section any
variable {all : Array Oper} {m : Nat}
theorem calm_at (h : calmOk all m = true) {j : Nat} {o : Oper} (ho : all[j]? = some o) : (∀ e, e ∈ o.after → Region.binds .any e = true → e.on < j) ∧ (m ≤ j → ∀ i, i < j → edge o i = true ∨ (i < m ∧ ∃ x p, all[x]? = some p ∧ edge o x = true ∧ edge p i = true)) ∧
    ∀ i p, i < j → all[i]? = some p → edge o i = true ∨ ((∀ x, p.dst = some x → namesT all o x = false) ∧ ∀ x, o.dst = some x → namesT all p x = false) := by
  have hj : j < all.size := (Array.getElem?_eq_some_iff.1 ho).1
  have h1 := (List.all_eq_true.1 h) j (List.mem_range.2 hj)
  simp only [ho, Bool.and_eq_true] at h1
  obtain ⟨⟨h2, h3⟩, h4⟩ := h1
  refine ⟨fun e he hb => ?_, fun hm i hi => ?_, fun i p hi hp => ?_⟩
  · have := (Array.all_eq_true_iff_forall_mem.1 h2) e he
    simp only [hb, Bool.not_true, Bool.false_or, Nat.blt_eq] at this
    exact this
  · rcases Bool.or_eq_true_iff.1 h3 with h5 | h5
    · simp only [Nat.blt_eq] at h5; omega
    · have h6 := List.all_eq_true.1 h5 i (List.mem_range.2 hi)
      simp only [Bool.or_eq_true, Bool.and_eq_true, Nat.blt_eq, List.any_eq_true] at h6
      rcases h6 with h6 | ⟨h6, x, _, h7, h8⟩
      · exact .inl h6
      · split at h8
        · next p hp => exact .inr ⟨h6, x, p, hp, h7, h8⟩
        · cases h8
  · have h5 := List.all_eq_true.1 h4 i (List.mem_range.2 hi)
    simp only [hp] at h5
    rcases Bool.or_eq_true_iff.1 h5 with h6 | h6
    · exact .inl h6
    · refine .inr ?_
      simp only [Bool.and_eq_true] at h6
      refine ⟨fun x hx => ?_, fun x hx => ?_⟩
      · have := h6.1; simp only [hx] at this; simpa using this
      · have := h6.2; simp only [hx] at this; simpa using this

theorem edge_listed {o : Oper} {j : Nat} {listed : Array Bool} (he : edge o j = true) (hr : ∀ e, e ∈ o.after → Region.binds .any e = true → listed.getD e.on false = true) : listed.getD j false = true := by
  simp only [edge, List.any_eq_true] at he
  obtain ⟨e, hm, hb⟩ := he
  rw [Array.mem_toList_iff] at hm
  simp only [Bool.and_eq_true, Nat.beq_eq] at hb
  obtain ⟨rfl, hb2⟩ := hb
  exact hr e hm hb2

/-- The last listed operation below k that writes x. -/
def lastW (all : Array Oper) (S : Nat → Bool) (x : Nat) : Nat → Option Nat
  | 0 => none
  | k + 1 => if S k = true ∧ dstAt all k = some x then some k else lastW all S x k
theorem lastW_congr {S S' : Nat → Bool} {x : Nat} : ∀ k, (∀ j, j < k → dstAt all j = some x → S j = S' j) → lastW all S x k = lastW all S' x k
  | 0, _ => rfl
  | k + 1, h => by
    simp only [lastW]
    rw [lastW_congr k (fun j hj => h j (by omega))]
    by_cases hd : dstAt all k = some x
    · rw [h k (by omega) hd]
    · simp [hd]
theorem lastW_top {x : Nat} {i : Nat} : ∀ k, i ≤ k → lastW all (fun j => decide (j < i)) x k = lastW all (fun _ => true) x i
  | 0, h => by obtain rfl : i = 0 := by omega
               rfl
  | k + 1, h => by
    by_cases e : i = k + 1
    · subst e
      exact lastW_congr _ fun j hj _ => by simp [hj]
    · simp only [lastW]
      rw [if_neg (by simp; omega), lastW_top k (by omega)]
theorem lastW_spec {S : Nat → Bool} {x : Nat} : ∀ k j, lastW all S x k = some j → j < k ∧ S j = true ∧ dstAt all j = some x
  | 0, j, h => by simp [lastW] at h
  | k + 1, j, h => by
    simp only [lastW] at h
    split at h
    · next hc => simp only [Option.some.injEq] at h; subst h; exact ⟨by omega, hc.1, hc.2⟩
    · obtain ⟨h1, h2, h3⟩ := lastW_spec k j h; exact ⟨by omega, h2, h3⟩

def tabAt (all : Array Oper) (V : Nat → AV) (t0 : T) (S : Nat → Bool) (k x : Nat) : Option AV :=
  match lastW all S x k with
  | some j => some (V j)
  | none => look x t0

/-- The states that a calm region goes through in its text's order. -/
def states (all : Array Oper) (V : Nat → AV) (t0 : T) : Nat → T
  | 0 => t0
  | k + 1 => putT (dstAt all k) (V k) (states all V t0 k)
theorem look_states (V : Nat → AV) (t0 : T) (x : Nat) : ∀ k, look x (states all V t0 k) = tabAt all V t0 (fun _ => true) k x
  | 0 => rfl
  | k + 1 => by
    have ih := look_states V t0 x k
    simp only [states, tabAt, lastW, true_and]
    cases hd : dstAt all k with
    | none => simpa [putT, tabAt] using ih
    | some d =>
      simp only [putT, look_cons, Option.some.injEq]
      by_cases e : x = d
      · subst e; simp
      · rw [if_neg e, if_neg (fun h => e h.symm), ih]; rfl

def TabOk (γ : Ids) (H : HF) (f : Nat → Option AV) (tm : Array Value) : Prop := ∀ i a, f i = some a → ∃ u, tm[i]? = some u ∧ Rep γ H a u

theorem ready_sound {md : Region.Mode} {listed : Array Bool} {i : Nat} (h : i ∈ Region.ready md all listed) : listed.getD i true = false ∧ ∃ o, all[i]? = some o ∧ ∀ e, e ∈ o.after → Region.binds md e = true → listed.getD e.on false = true := mem_ready.1 h

theorem getD_of {listed : Array Bool} {i : Nat} (h : listed.getD i true = false) : i < listed.size ∧ listed.getD i false = false := by
  rw [Array.getD_eq_getD_getElem?] at h ⊢
  cases hx : listed[i]? with
  | none => rw [hx] at h; simp at h
  | some b => rw [hx] at h; simp at h; subst h; exact ⟨(Array.getElem?_eq_some_iff.1 hx).1, rfl⟩

end any

theorem wpAnyIn_tail {F : Fence} {n : Nat} {P : Program} {all : Array Oper} {m : Nat} {Q : Exit → Act → World → Prop} (hc : calmOk all m = true) : ∀ (fuel k : Nat) (listed : Array Bool) (a : Act) (w : World), m ≤ k → k + fuel = all.size → listed.size = all.size →
    (∀ j, j < all.size → listed.getD j false = decide (j < k)) → wpOpsIn F n P all Q (List.range' k fuel) a w → wpAnyIn F n P .any all Q fuel listed a w
  | 0, k, listed, a, w, hm, hk, hs, hl, h => by
    refine ⟨?_, by simpa [wpOpsIn] using h⟩
    rw [List.eq_nil_iff_forall_not_mem]
    intro i hi
    obtain ⟨h1, o, ho, _⟩ := ready_sound hi
    have := hl i (Array.getElem?_eq_some_iff.1 ho).1
    have hi' := (getD_of h1).2
    rw [hi'] at this
    have hlt := (Array.getElem?_eq_some_iff.1 ho).1
    simp at this; omega
  | fuel + 1, k, listed, a, w, hm, hk, hs, hl, h => by
    have hkn : k < all.size := by omega
    have hready : ∀ i, i ∈ Region.ready .any all listed → i = k := by
      intro i hi
      obtain ⟨h1, o, ho, h2⟩ := ready_sound hi
      have hlt := (Array.getElem?_eq_some_iff.1 ho).1
      have h3 := hl i hlt
      rw [(getD_of h1).2] at h3
      have h4 : ¬ i < k := by simpa using h3.symm
      by_cases e : i = k
      · exact e
      · have h5 : edge o k = true := by
          rcases (calm_at hc ho).2.1 (by omega) k (by omega) with h5 | ⟨h5, _⟩
          · exact h5
          · omega
        have h6 := edge_listed h5 h2
        rw [hl k hkn] at h6
        simp at h6
    rw [List.range'_succ, wpOpsIn_cons] at h
    refine ⟨fun hn => ?_, fun i hi => ?_⟩
    · exfalso
      have hmem : k ∈ Region.ready .any all listed := by
        rw [mem_ready]
        refine ⟨?_, all[k], by simp [hkn], fun e he hb => ?_⟩
        · have := hl k hkn
          simp only [Nat.lt_irrefl, decide_false] at this
          rw [Array.getD_eq_getD_getElem?] at this ⊢
          rw [Array.getElem?_eq_getElem (by omega)] at this ⊢
          simpa using this
        · have := (calm_at hc (j := k) (o := all[k]) (by simp [hkn])).1 e he hb
          rw [hl _ (by omega)]; simpa using this
      rw [hn] at hmem; cases hmem
    · obtain rfl := hready i hi
      refine wpOpIn_mono (fun a w hw => ?_) h
      refine wpAnyIn_tail hc fuel (i + 1) _ a w (by omega) (by omega) (by simpa using hs) (fun j hj => ?_) hw
      by_cases e : i = j
      · subst e
        rw [Array.getD_eq_getD_getElem?]; simp [hs, hkn]
      · rw [getD_set_ne false e, hl j hj]
        simp; omega

/-- The heart: quiet operations come up in any order. -/
theorem calm_any {X : Cx} {all : Array Oper} {m : Nat} {t0 : T} {σ : Sg} {V : Nat → AV} {Q' : Exit → Act → World → Prop} (hc : calmOk all m = true) (hm : m ≤ all.size)
    (hstep : ∀ i o, i < m → all[i]? = some o → OStep X all o (states all V t0 i) σ (V i) ∧ dOk o.dst X.N = true)
    (hend : ∀ γ H a w, St X.w0 X.H0 X.B X.N X.D γ H (states all V t0 m) σ a w → wpOpsIn (Fr X.ro) 0 X.P all Q' (List.range' m (all.size - m)) a w) :
    ∀ (fuel : Nat) (listed : Array Bool) (γ : Ids) (H : HF) (a : Act) (w : World), listed.size = all.size →
      (∀ j, m ≤ j → listed.getD j false = false) → (∀ i o, listed.getD i false = true → all[i]? = some o → ∀ e, e ∈ o.after → Region.binds .any e = true → listed.getD e.on false = true) →
      ((List.range m).filter fun j => !listed.getD j false).length + (all.size - m) = fuel →
      a.defers = (X.D.map fun i => { target := .collected (γ i).1, args := #[] }) → a.tmps.size = X.N → TabOk γ H (tabAt all V t0 (fun j => listed.getD j false) m) a.tmps → Mem X.w0 X.H0 X.B γ H σ w →
      wpAnyIn (Fr X.ro) 0 X.P .any all Q' fuel listed a w := by
  intro fuel
  induction fuel with
  | zero =>
    intro listed γ H a w hs htail hclosed hcount hd hsz htab hmem
    have hall : ∀ j, j < m → listed.getD j false = true := fun j hj => by
      have h0 : ((List.range m).filter fun j => !listed.getD j false) = [] := List.length_eq_zero_iff.1 (by omega)
      have := List.filter_eq_nil_iff.1 h0 j (List.mem_range.2 hj)
      simpa using this
    have hmn : m = all.size := by omega
    have hst : St X.w0 X.H0 X.B X.N X.D γ H (states all V t0 m) σ a w := ⟨hd, hsz, fun i b hi => htab i b (by
      rw [look_states] at hi
      rw [← hi]
      simp only [tabAt]
      rw [lastW_congr m (fun j hj _ => hall j hj)]), hmem⟩
    have := hend γ H a w hst
    refine wpAnyIn_tail hc 0 m listed a w (Nat.le_refl _) (by omega) hs (fun j hj => ?_) (by rw [show all.size - m = 0 from by omega] at this; exact this)
    rw [hall j (by omega)]; simp; omega
  | succ fuel ih =>
    intro listed γ H a w hs htail hclosed hcount hd hsz htab hmem
    by_cases hall : ∀ j, j < m → listed.getD j false = true
    · -- the calm part is over
      have hst : St X.w0 X.H0 X.B X.N X.D γ H (states all V t0 m) σ a w := ⟨hd, hsz, fun i b hi => htab i b (by
        rw [look_states] at hi
        rw [← hi]
        simp only [tabAt]
        rw [lastW_congr m (fun j hj _ => hall j hj)]), hmem⟩
      have h0 : ((List.range m).filter fun j => !listed.getD j false) = [] := List.filter_eq_nil_iff.2 fun j hj => by simp only [hall j (List.mem_range.1 hj)]; simp
      rw [h0] at hcount
      simp only [List.length_nil, Nat.zero_add] at hcount
      have := hend γ H a w hst
      rw [hcount] at this
      refine wpAnyIn_tail hc (fuel + 1) m listed a w (Nat.le_refl _) (by omega) hs (fun j hj => ?_) this
      by_cases hj' : j < m
      · rw [hall j hj']; simp [hj']
      · rw [htail j (by omega)]; simp; omega
    · refine ⟨fun hn => ?_, fun i hi => ?_⟩
      · -- the least that is not listed is ready
        exfalso
        have hex : ∃ j, j < m ∧ listed.getD j false = false := by
          refine Classical.byContradiction fun hno => hall fun j hj => ?_
          cases hx : listed.getD j false with
          | true => rfl
          | false => exact absurd ⟨j, hj, hx⟩ hno
        have hmin : ∃ j, j < m ∧ listed.getD j false = false ∧ ∀ i, i < j → listed.getD i false = true := by
          obtain ⟨j, hj⟩ := hex
          induction j using Nat.strongRecOn with
          | _ j ihj =>
            by_cases hlow : ∀ i, i < j → listed.getD i false = true
            · exact ⟨j, hj.1, hj.2, hlow⟩
            · have : ∃ i, i < j ∧ listed.getD i false = false := by
                refine Classical.byContradiction fun hno => hlow fun i hi => ?_
                cases hx : listed.getD i false with
                | true => rfl
                | false => exact absurd ⟨i, hi, hx⟩ hno
              obtain ⟨i, hi, hx⟩ := this
              exact ihj i hi ⟨by omega, hx⟩
        obtain ⟨j, hj, hjl, hlow⟩ := hmin
        have hjn : j < all.size := by omega
        have hmem' : j ∈ Region.ready .any all listed := by
          rw [mem_ready]
          refine ⟨?_, all[j], by simp [hjn], fun e he hb => hlow _ ((calm_at hc (j := j) (o := all[j]) (by simp [hjn])).1 e he hb)⟩
          rw [Array.getD_eq_getD_getElem?] at hjl ⊢
          rw [Array.getElem?_eq_getElem (by omega)] at hjl ⊢
          simpa using hjl
        rw [hn] at hmem'; cases hmem'
      · obtain ⟨h1, o, ho, h2⟩ := ready_sound hi
        obtain ⟨hil, hif⟩ := getD_of h1
        have hin : i < all.size := (Array.getElem?_eq_some_iff.1 ho).1
        have him : i < m := by
          refine Classical.byContradiction fun hge => hall fun j hj => ?_
          rcases (calm_at hc ho).2.1 (by omega) j (by omega) with h5 | ⟨_, x, p, hp, h5, h6⟩
          · exact edge_listed h5 h2
          · exact edge_listed h6 (hclosed x p (edge_listed h5 h2) hp)
        -- who writes what i names: listed just if it stands ahead
        have hwr : ∀ x, namesT all o x = true → ∀ j, j < m → dstAt all j = some x → listed.getD j false = decide (j < i) := by
          intro x hx j hj hd'
          cases hp : all[j]? with
          | none => simp [dstAt, hp] at hd'
          | some p =>
            simp only [dstAt, hp, Option.bind_some] at hd'
            by_cases hji : j < i
            · rcases (calm_at hc ho).2.2 j p hji hp with h3 | ⟨h3, _⟩
              · rw [edge_listed h3 h2]; simp [hji]
              · rw [h3 x hd'] at hx; cases hx
            · by_cases e : j = i
              · subst e; rw [hif]; simp
              · rcases (calm_at hc hp).2.2 i o (by omega) ho with h3 | ⟨_, h3⟩
                · cases hlj : listed.getD j false with
                  | false => simp; omega
                  | true =>
                    have := edge_listed h3 (hclosed j p hlj hp)
                    rw [hif] at this; cases this
                · rw [h3 x hd'] at hx; cases hx
        have htab_i : ∀ x, namesT all o x = true → tabAt all V t0 (fun j => listed.getD j false) m x = look x (states all V t0 i) := by
          intro x hx
          rw [look_states]
          simp only [tabAt]
          rw [lastW_congr m (fun j hj hd' => hwr x hx j hj hd'), lastW_top m (by omega)]
        have hopnd : ∀ x, x ∈ o.op.operands → ∀ v, ge (states all V t0 i) x = some v → Rep γ H v (a.eval x) := by
          intro x hx v hv
          cases x with
          | tmp y =>
            have hy : namesT all o y = true := by
              simp only [namesT, Bool.or_eq_true]
              exact .inl (.inr (List.any_eq_true.2 ⟨_, Array.mem_toList_iff.2 hx, by simp [hasT]⟩))
            obtain ⟨u, hu, hr⟩ := htab y v (by rw [htab_i y hy]; exact hv)
            simp only [Act.eval, Array.getD_eq_getD_getElem?, hu, Option.getD_some]
            exact hr
          | const c => simp only [ge, Option.some.injEq] at hv; subst hv; exact rep_const γ H c
          | func f => simp only [ge, Option.some.injEq] at hv; subst hv; exact .d _ _ (.fn f [] [] rfl (fun j a u h1 => by simp at h1))
          | global g => simp [ge] at hv
        obtain ⟨hos, hdok⟩ := hstep i o him ho
        -- behind it
        have hnext : ∀ v γ' σ' H' w', Mem w H (fun _ => False) γ' H' σ' w' → Rep γ H' (V i) v → wpAnyIn (Fr X.ro) 0 X.P .any all Q' fuel (listed.setIfInBounds i true) (a.put o.dst v) w' := by
          intro v γ' σ' H' w' hm' hr
          refine ih _ γ H' _ w' (by simpa using hs) (fun j hj => ?_) (fun j p hj hp e he hb => ?_) ?_ (by rw [put_defers]; exact hd) (by rw [put_size]; exact hsz) ?_ (hmem.call hm')
          · rw [getD_set_ne false (by omega)]; exact htail j hj
          · by_cases e' : i = j
            · subst e'
              rw [ho] at hp; simp only [Option.some.injEq] at hp; subst hp
              exact getD_set_true (h2 e he hb)
            · rw [getD_set_ne false e'] at hj
              exact getD_set_true (hclosed j p hj hp e he hb)
          · have hf : ((List.range m).filter fun j => !listed.getD j false).length = ((List.range m).filter fun j => !(listed.setIfInBounds i true).getD j false).length + 1 := by
              have h5 : ∀ (l : List Nat), l.Nodup → i ∈ l → (l.filter fun j => !listed.getD j false).length = (l.filter fun j => !(listed.setIfInBounds i true).getD j false).length + 1 := by
                intro l
                induction l with
                | nil => intro _ h; cases h
                | cons b l ihl =>
                  intro hnd hmem'
                  rw [List.nodup_cons] at hnd
                  by_cases e : i = b
                  · subst e
                    have h6 : (listed.setIfInBounds i true).getD i false = true := by
                      rw [Array.getD_eq_getD_getElem?]; simp [hil]
                    have h7 : (l.filter fun j => !listed.getD j false) = (l.filter fun j => !(listed.setIfInBounds i true).getD j false) := by
                      refine List.filter_congr fun j hj => ?_
                      have hne : i ≠ j := fun e => hnd.1 (e ▸ hj)
                      rw [getD_set_ne false hne]
                    simp only [List.filter_cons, hif, h6, Bool.not_false, Bool.not_true, if_true, h7, List.length_cons, Bool.false_eq_true, if_false]
                  · have h6 := getD_set_ne (listed := listed) false e
                    have h7 := ihl hnd.2 (by rcases List.mem_cons.1 hmem' with h | h; exact absurd h e; exact h)
                    simp only [List.filter_cons, h6]
                    split <;> simp only [List.length_cons, h7]
              exact h5 _ List.nodup_range (List.mem_range.2 him)
            omega
          · -- the table
            intro x b hx
            by_cases hxd : o.dst = some x
            · have hlw : tabAt all V t0 (fun j => (listed.setIfInBounds i true).getD j false) m x = some (V i) := by
                have hnx : namesT all o x = true := by simp [namesT, hxd]
                simp only [tabAt]
                have : lastW all (fun j => (listed.setIfInBounds i true).getD j false) x m = lastW all (fun j => decide (j < i + 1)) x m := by
                  refine lastW_congr m fun j hj hd' => ?_
                  by_cases e : i = j
                  · subst e; rw [Array.getD_eq_getD_getElem?]; simp [hil]
                  · show (listed.setIfInBounds i true).getD j false = _
                    rw [getD_set_ne false e, hwr x hnx j hj hd']
                    simp; omega
                rw [this, lastW_top m (by omega)]
                have hda : dstAt all i = some x := by simp [dstAt, ho, hxd]
                simp [lastW, hda]
              rw [hlw] at hx
              simp only [Option.some.injEq] at hx
              subst hx
              have hlt : x < a.tmps.size := by rw [hxd] at hdok; simp only [dOk, Nat.blt_eq] at hdok; omega
              exact ⟨v, by rw [hxd]; simp [Act.put, hlt], hr⟩
            · have hlw : tabAt all V t0 (fun j => (listed.setIfInBounds i true).getD j false) m x = tabAt all V t0 (fun j => listed.getD j false) m x := by
                simp only [tabAt]
                rw [lastW_congr m fun j hj hd' => ?_]
                have e : i ≠ j := fun e => by subst e; simp [dstAt, ho] at hd'; exact hxd hd'
                exact getD_set_ne false e
              rw [hlw] at hx
              obtain ⟨u, hu, hr'⟩ := htab x b hx
              refine ⟨u, ?_, hr'.mono hm'.hle⟩
              cases hod : o.dst with
              | none => simpa [Act.put, hod] using hu
              | some d =>
                have hne : d ≠ x := fun e => hxd (by rw [hod, e])
                simp only [Act.put]
                rw [Array.getElem?_setIfInBounds, if_neg hne]; exact hu
        -- its guard
        have hguard : ∀ j b' d b, o.guard = some (j, b') → ((all[j]?).bind (·.dst)) = some d → look d (states all V t0 i) = some (.d (.v (.bool b))) → yielded all a.tmps j = some b := by
          intro j b' d b hg hd' hl
          have hnd : namesT all o d = true := by simp [namesT, hg, hd']
          obtain ⟨u, hu, hr⟩ := htab d _ (by rw [htab_i d hnd]; exact hl)
          have := rep_v hr
          subst this
          simp [yielded, hd', hu]
        have hguardU : ∀ j b' d, o.guard = some (j, b') → ((all[j]?).bind (·.dst)) = some d → look d (states all V t0 i) = some (.tup []) → yielded all a.tmps j = none := by
          intro j b' d hg hd' hl
          have hnd : namesT all o d = true := by simp [namesT, hg, hd']
          obtain ⟨u, hu, hr⟩ := htab d _ (by rw [htab_i d hnd]; exact hl)
          have := rep_undef_eq hr
          subst this
          simp [yielded, hd', hu, undef]
        unfold wpOpIn
        simp only [ho]
        rcases hos with ⟨hg, hq⟩ | ⟨j, b, d, hg, hd', hl, hq⟩ | ⟨j, b, b', d, hg, hd', hl, hne, hV⟩ | ⟨j, b, d, hg, hd', hl, hV⟩
        · have hw : Region.wanted o (yielded all a.tmps) = true := by simp [Region.wanted, hg]
          rw [if_pos hw]
          exact ⟨fun _ _ => trivial, hq γ H a w hopnd hmem _ _ hnext⟩
        · have hw : Region.wanted o (yielded all a.tmps) = true := by simp [Region.wanted, hg, hguard j b d b hg hd' hl]
          rw [if_pos hw]
          exact ⟨fun _ _ => trivial, hq γ H a w hopnd hmem _ _ hnext⟩
        · have hw : Region.wanted o (yielded all a.tmps) = false := by simp [Region.wanted, hg, hguard j b d b' hg hd' hl, hne]
          simp only [hw, Bool.false_eq_true, if_false]
          exact ⟨fun _ _ => trivial, hnext undef γ [] H w hmem.refl (by rw [hV]; exact rep_undef)⟩
        · have hw : Region.wanted o (yielded all a.tmps) = false := by simp [Region.wanted, hg, hguardU j b d hg hd' hl]
          simp only [hw, Bool.false_eq_true, if_false]
          exact ⟨fun _ _ => trivial, hnext undef γ [] H w hmem.refl (by rw [hV]; exact rep_undef)⟩

def statesFrom (all : Array Oper) (V : Nat → AV) (t : T) (k : Nat) : Nat → T
  | 0 => t
  | j + 1 => putT (dstAt all (k + j)) (V (k + j)) (statesFrom all V t k j)
theorem statesFrom_congr {all : Array Oper} {V V' : Nat → AV} {t : T} {k : Nat} : ∀ j, (∀ i, k ≤ i → i < k + j → V i = V' i) → statesFrom all V t k j = statesFrom all V' t k j
  | 0, _ => rfl
  | j + 1, h => by
    simp only [statesFrom]
    rw [h (k + j) (by omega) (by omega), statesFrom_congr j (fun i h1 h2 => h i h1 (by omega))]
theorem statesFrom_succ {all : Array Oper} {V : Nat → AV} {t : T} {k : Nat} : ∀ j, statesFrom all V t k (j + 1) = statesFrom all V (putT (dstAt all k) (V k) t) (k + 1) j
  | 0 => rfl
  | j + 1 => by
    rw [statesFrom, statesFrom_succ j, statesFrom]
    rw [show k + (j + 1) = k + 1 + j from by omega]
theorem statesFrom_zero {all : Array Oper} {V : Nat → AV} {t : T} : ∀ j, statesFrom all V t 0 j = states all V t j
  | 0 => rfl
  | j + 1 => by simp only [statesFrom, states, Nat.zero_add, statesFrom_zero j]

theorem CJ.table {X : Cx} {all : Array Oper} {σ : Sg} {Q : T → Sg → Prop} : ∀ (rest : List Oper) (k : Nat) (t : T), (∀ j, j < rest.length → all[k + j]? = rest[j]?) → CJ X all rest t σ Q →
    ∃ V : Nat → AV, (∀ j o, j < rest.length → all[k + j]? = some o → OStep X all o (statesFrom all V t k j) σ (V (k + j)) ∧ dOk o.dst X.N = true) ∧ ∃ t', Wk t' (statesFrom all V t k rest.length) ∧ Q t' σ
  | [], k, t, _, h => ⟨fun _ => .junk, fun j o hj => by simp at hj, h⟩
  | p :: rest, k, t, ha, ⟨V0, h1, h2, h3⟩ => by
    have hk : all[k]? = some p := by simpa using ha 0 (by simp)
    obtain ⟨V', h4, t', h5, h6⟩ := CJ.table rest (k + 1) _ (fun j hj => by have := ha (j + 1) (by simp; omega); rw [show k + 1 + j = k + (j + 1) from by omega]; simpa using this) h3
    have hdk : dstAt all k = p.dst := by simp [dstAt, hk]
    have hV : ∀ j, statesFrom all (fun i => if i = k then V0 else V' i) t k (j + 1) = statesFrom all V' (putT p.dst V0 t) (k + 1) j := fun j => by
      rw [statesFrom_succ, hdk]
      simp only [if_true]
      exact statesFrom_congr j fun i h7 h8 => if_neg (by omega)
    refine ⟨fun i => if i = k then V0 else V' i, fun j o hj ho => ?_, t', by rw [List.length_cons, hV]; exact h5, h6⟩
    cases j with
    | zero =>
      rw [Nat.add_zero, hk] at ho
      simp only [Option.some.injEq] at ho
      subst ho
      simp only [Nat.add_zero, if_true, statesFrom]
      exact ⟨h1, h2⟩
    | succ j =>
      rw [hV]
      have hne : k + (j + 1) ≠ k := by omega
      simp only [if_neg hne]
      have := h4 j o (by simpa using hj) (by rw [show k + 1 + j = k + (j + 1) from by omega]; exact ho)
      rw [show k + (j + 1) = k + 1 + j from by omega]; exact this

/-- **A region that draws its order**: its first m operations are quiet; what stands behind all of them comes in its order. -/
theorem WJ.calm {X : Cx} {id : Nat} {ops : Array Oper} {t : T} {σ : Sg} {Q : Qt} (m : Nat) (hm : X.P.follows .mixedOrders = true) (hc : calmOk ops m = true) (hle : m ≤ ops.size)
    (h : CJ X ops (ops.toList.take m) t σ (fun t σ => LJ X ops m (ops.toList.drop m) t σ (Q .normal))) : WJ X (.region id ops true) t σ Q := by
  intro γ H a w s
  refine wpIn_region_any hm ?_
  have hlen : (ops.toList.take m).length = m := by simp; omega
  obtain ⟨V, h1, t', h2, h3⟩ := CJ.table (ops.toList.take m) 0 t (fun j hj => by rw [hlen] at hj; rw [Nat.zero_add, List.getElem?_take, if_pos hj]; simp) h
  rw [hlen] at h1 h2
  have s' : St X.w0 X.H0 X.B X.N X.D γ H t σ a { w with drawn := w.drawn + 1 } := ⟨s.defers, s.size, s.tmp,
    ⟨⟨s.mem.keep.os, s.mem.keep.tape, s.mem.keep.output, s.mem.keep.size, s.mem.keep.block⟩, s.mem.hle, s.mem.hnew, s.mem.hok, fun i e hi => by
      have := s.mem.ent i e hi
      cases e <;> exact this, s.mem.fresh, s.mem.apart⟩⟩
  have hall : ∀ j, (Array.replicate ops.size false).getD j false = false := fun j => by
    rw [Array.getD_eq_getD_getElem?, Array.getElem?_replicate]; split <;> rfl
  refine calm_any hc hle (V := V) (fun i o hi ho => by
    have := h1 i o hi (by rw [Nat.zero_add]; exact ho)
    rw [statesFrom_zero, Nat.zero_add] at this; exact this) (fun γ H a w st => ?_) ops.size _ γ H a _ (by simp) (fun j _ => hall j) (fun i o hi => by rw [hall i] at hi; cases hi) ?_ s'.defers s'.size ?_ s'.mem
  · have hst : St X.w0 X.H0 X.B X.N X.D γ H t' σ a w := ⟨st.defers, st.size, st.tmp.wk (by rw [statesFrom_zero] at h2; exact h2), st.mem⟩
    have := h3 (fun j => by simp) (Post X Q) (fun γ H t σ a w s q => ⟨γ, H, t, σ, s, q⟩) γ H a w hst
    simp only [List.length_drop, Array.length_toList] at this
    exact this
  · have : ((List.range m).filter fun j => !(Array.replicate ops.size false).getD j false) = List.range m := List.filter_eq_self.2 fun j _ => by rw [hall j]; rfl
    rw [this, List.length_range]; omega
  · intro x b hx
    have : lastW ops (fun j => (Array.replicate ops.size false).getD j false) x m = none := by
      have h0 : ∀ k, lastW ops (fun _ => false) x k = none := fun k => by
        induction k with
        | zero => rfl
        | succ k ih => simp [lastW, ih]
      rw [lastW_congr (S' := fun _ => false) m (fun j _ _ => hall j)]; exact h0 m
    simp only [tabAt, this] at hx
    exact s.tmp x b hx

end Go.Sv
