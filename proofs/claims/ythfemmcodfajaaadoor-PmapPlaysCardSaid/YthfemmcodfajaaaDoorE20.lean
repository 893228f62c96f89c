/- Tries of ids as rows by rising numbers. -/
import Derived.Test.YthfemmcodfajaaaDoorE19
set_option linter.unusedVariables false
set_option linter.unusedSimpArgs false
open Go Go.Gv
namespace Go.Proofs.E
abbrev KE := Nat × EN
def elems : Nat → Nat → PT → List KE
  | 0, k, p => match p.ent with | some e => [(k, e)] | none => []
  | r + 1, k, p => (List.range 16).flatMap fun d => elems r (16 * k + d) (p.kids.getD d .nil)
def insK (x : Nat) (e : EN) : List KE → List KE
  | [] => [(x, e)]
  | y :: l => if x < y.1 then (x, e) :: y :: l else if x = y.1 then (x, e) :: l else y :: insK x e l
theorem elems_nil : ∀ (r k : Nat), elems r k .nil = []
  | 0, k => rfl
  | r + 1, k => by
    rw [elems]
    refine List.flatMap_eq_nil_iff.2 fun d _ => ?_
    rw [show PT.nil.kids = nils from rfl, nils_getD, elems_nil r]
theorem elems_rng : ∀ (r k : Nat) (p : PT) (x : KE), x ∈ elems r k p → k * 16 ^ r ≤ x.1 ∧ x.1 < (k + 1) * 16 ^ r
  | 0, k, p, x, h => by
    rw [elems] at h
    split at h
    · simp at h; subst h; simp
    · simp at h
  | r + 1, k, p, x, h => by
    rw [elems, List.mem_flatMap] at h
    obtain ⟨d, hd, hx⟩ := h
    have hd := List.mem_range.1 hd
    obtain ⟨h1, h2⟩ := elems_rng r _ _ x hx
    have e1 : k * 16 ^ (r + 1) = (16 * k) * 16 ^ r := by rw [Nat.pow_succ]; rw [Nat.mul_comm (16 ^ r), ← Nat.mul_assoc, Nat.mul_comm k]
    have e2 : (k + 1) * 16 ^ (r + 1) = (16 * k + 16) * 16 ^ r := by rw [Nat.pow_succ, Nat.mul_comm (16 ^ r), ← Nat.mul_assoc]; congr 1; omega
    rw [e1, e2]
    refine ⟨Nat.le_trans (Nat.mul_le_mul_right _ (by omega)) h1, Nat.lt_of_lt_of_le h2 (Nat.mul_le_mul_right _ (by omega))⟩
theorem insK_right {x : Nat} {e : EN} : ∀ {A B : List KE}, (∀ y, y ∈ A → y.1 < x) → insK x e (A ++ B) = A ++ insK x e B
  | [], B, _ => rfl
  | a :: A, B, h => by
    have h1 := h a (by simp)
    rw [List.cons_append, insK, if_neg (by omega), if_neg (by omega), insK_right fun y hy => h y (List.mem_cons_of_mem _ hy)]; rfl
theorem insK_left {x : Nat} {e : EN} : ∀ {A B : List KE}, (∀ y, y ∈ B → x < y.1) → insK x e (A ++ B) = insK x e A ++ B
  | [], [], _ => rfl
  | [], b :: B, h => by
    have h1 := h b (by simp)
    show insK x e (b :: B) = [(x, e)] ++ (b :: B)
    rw [insK, if_pos h1]; rfl
  | a :: A, B, h => by
    rw [List.cons_append, insK, insK]
    split
    · rfl
    · split
      · rfl
      · rw [insK_left h]; rfl
theorem range_at {d : Nat} (h : d < 16) : List.range 16 = List.range d ++ d :: List.range' (d + 1) (15 - d) := by
  rw [List.range_eq_range', List.range_eq_range', show (16 : Nat) = d + (16 - d) by omega, ← List.range'_append_1 (s := 0) (m := d) (n := 16 - d), Nat.zero_add, show 16 - d = (15 - d) + 1 by omega, List.range'_succ]
theorem getD_set {α : Type} (l : List α) (i j : Nat) (x y : α) : (l.set i x).getD j y = if i = j ∧ i < l.length then x else l.getD j y := by
  rw [List.getD_eq_getElem?_getD, List.getElem?_set, List.getD_eq_getElem?_getD]
  by_cases h : i = j
  · subst h
    by_cases h2 : i < l.length
    · simp [h2]
    · rw [if_pos rfl, if_neg h2, if_neg (fun x => h2 x.2), List.getElem?_eq_none (by omega)]
  · rw [if_neg h, if_neg (fun x => h x.1)]
theorem elems_put : ∀ (r k x : Nat) (e : EN) (p : PT), PT.wf r p → k * 16 ^ r ≤ x → x < (k + 1) * 16 ^ r → elems r k (PT.put r x e p) = insK x e (elems r k p)
  | 0, k, x, e, p, hw, h1, h2 => by
    have hx : x = k := by simp at h1 h2; omega
    subst hx
    rcases hw with rfl | ⟨e', rfl⟩
    · rfl
    · simp [elems, PT.put, PT.ent, insK]
  | r + 1, k, x, e, p, hw, h1, h2 => by
    have hl := kids_len hw
    have hws := kids_wf hw
    have hd := dg_lt x r
    have e1 : k * 16 ^ (r + 1) = (16 * k) * 16 ^ r := by rw [Nat.pow_succ, Nat.mul_comm (16 ^ r), ← Nat.mul_assoc, Nat.mul_comm k]
    have e2 : (k + 1) * 16 ^ (r + 1) = (16 * k + 16) * 16 ^ r := by rw [Nat.pow_succ, Nat.mul_comm (16 ^ r), ← Nat.mul_assoc]; congr 1; omega
    rw [e1] at h1
    rw [e2] at h2
    have hp : 0 < 16 ^ r := Nat.pow_pos (by decide)
    have hq : x / 16 ^ r = 16 * k + dg x r := by
      have a1 : 16 * k ≤ x / 16 ^ r := (Nat.le_div_iff_mul_le hp).2 h1
      have a2 : x / 16 ^ r < 16 * k + 16 := (Nat.div_lt_iff_lt_mul hp).2 h2
      unfold dg; omega
    have hlo : (16 * k + dg x r) * 16 ^ r ≤ x := by rw [← hq]; exact Nat.div_mul_le_self _ _
    have hhi : x < (16 * k + dg x r + 1) * 16 ^ r := by rw [← hq]; exact Nat.lt_mul_of_div_lt (by omega) hp
    have hkid : PT.wf r (p.kids.getD (dg x r) .nil) := by
      rw [List.getD_eq_getElem?_getD]
      cases hx : p.kids[dg x r]? with
      | none => exact wf_nil r
      | some q => exact hws q (List.mem_of_getElem? hx)
    have ih := elems_put r (16 * k + dg x r) x e _ hkid hlo hhi
    rw [PT.put, elems, elems, range_at hd]
    simp only [List.flatMap_append, List.flatMap_cons]
    rw [show (PT.node (p.kids.set (dg x r) (PT.put r x e (p.kids.getD (dg x r) PT.nil))) p.ent).kids = p.kids.set (dg x r) (PT.put r x e (p.kids.getD (dg x r) PT.nil)) from rfl]
    have same : ∀ l : List Nat, (∀ d, d ∈ l → d ≠ dg x r) → (l.flatMap fun d => elems r (16 * k + d) ((p.kids.set (dg x r) (PT.put r x e (p.kids.getD (dg x r) PT.nil))).getD d .nil)) = l.flatMap fun d => elems r (16 * k + d) (p.kids.getD d .nil) := fun l hl' => by
      induction l with
      | nil => rfl
      | cons a l ih2 =>
        rw [List.flatMap_cons, List.flatMap_cons, ih2 fun d hd => hl' d (List.mem_cons_of_mem _ hd), getD_set, if_neg (fun h => hl' a (by simp) h.1.symm)]
    rw [same _ fun d hd => by have := List.mem_range.1 hd; omega, same _ fun d hd => by have := List.mem_range'_1.1 hd; omega, getD_set, if_pos ⟨rfl, by omega⟩, ih]
    rw [insK_right fun y hy => ?_, insK_left fun y hy => ?_]
    · rw [List.mem_flatMap] at hy
      obtain ⟨d, hd', hy⟩ := hy
      have hd' := List.mem_range'_1.1 hd'
      have := (elems_rng r _ _ y hy).1
      exact Nat.lt_of_lt_of_le hhi (Nat.le_trans (Nat.mul_le_mul_right _ (by omega)) this)
    · rw [List.mem_flatMap] at hy
      obtain ⟨d, hd', hy⟩ := hy
      have hd' := List.mem_range.1 hd'
      have := (elems_rng r _ _ y hy).2
      exact Nat.lt_of_lt_of_le this (Nat.le_trans (Nat.mul_le_mul_right _ (by omega)) hlo)
end Go.Proofs.E
