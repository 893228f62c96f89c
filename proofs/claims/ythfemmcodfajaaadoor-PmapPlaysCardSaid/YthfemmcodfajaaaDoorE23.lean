/- Maps of ids, as rows by rising ids. -/
import Derived.Test.YthfemmcodfajaaaDoorE22
set_option linter.unusedVariables false
set_option linter.unusedSimpArgs false
open Go Go.Gv
set_option maxRecDepth 100000
namespace Go.Proofs.E
abbrev IE := ID × EN
def insM (a : ID) (e : EN) : List IE → List IE
  | [] => [(a, e)]
  | y :: l => if lessI a y.1 = true then (a, e) :: y :: l else if a = y.1 then (a, e) :: l else y :: insM a e l
def upM (M : List IE) : Prop := M.Pairwise fun x y => lessI x.1 y.1 = true
/-- A map's part and count stand for a row. -/
structure isM (p : PT) (n : Int) (M : List IE) : Prop where
  wf : PT.wf 8 p
  el : elems 8 0 p = M.map fun x => (keyI x.1, x.2)
  len : n = M.length
  may : ∀ x, x ∈ M → mayI x.1 = true
  up : upM M
theorem key_lt {a b : ID} (ha : mayI a = true) (hb : mayI b = true) : keyI a < keyI b ↔ lessI a b = true := by
  obtain ⟨a1, a2, a3, a4⟩ := mayI_iff ha
  obtain ⟨b1, b2, b3, b4⟩ := mayI_iff hb
  unfold keyI lessI
  simp only [decide_eq_true_eq]
  omega
theorem key_inj {a b : ID} (ha : mayI a = true) (hb : mayI b = true) (h : keyI a = keyI b) : a = b := by
  obtain ⟨a1, a2, a3, a4⟩ := mayI_iff ha
  obtain ⟨b1, b2, b3, b4⟩ := mayI_iff hb
  unfold keyI at h
  cases a; cases b
  simp only [ID.mk.injEq] at *
  omega
theorem namK_key {a : ID} (ha : mayI a = true) : namK (keyI a) = a := by
  obtain ⟨a1, a2, a3, a4⟩ := mayI_iff ha
  unfold namK keyI
  cases a
  simp only [ID.mk.injEq] at *
  omega
theorem isM_nil : isM .nil 0 [] := ⟨wf_nil 8, elems_nil 8 0, rfl, fun _ h => by simp at h, List.Pairwise.nil⟩
theorem insK_map {a : ID} {e : EN} (ha : mayI a = true) : ∀ (M : List IE), (∀ x, x ∈ M → mayI x.1 = true) → insK (keyI a) e (M.map fun x => (keyI x.1, x.2)) = (insM a e M).map fun x => (keyI x.1, x.2)
  | [], _ => rfl
  | y :: l, h => by
    have hy := h y (by simp)
    rw [List.map_cons, insK, insM]
    by_cases h1 : lessI a y.1 = true
    · rw [if_pos h1, if_pos ((key_lt ha hy).2 h1)]; rfl
    · rw [if_neg h1, if_neg (fun x => h1 ((key_lt ha hy).1 x))]
      by_cases h2 : a = y.1
      · rw [if_pos h2, if_pos (by rw [h2])]; rfl
      · rw [if_neg h2, if_neg (fun x => h2 (key_inj ha hy x)), insK_map ha l fun x hx => h x (List.mem_cons_of_mem _ hx)]; rfl
theorem mem_insM {a : ID} {e : EN} {x : IE} : ∀ {M : List IE}, x ∈ insM a e M → x = (a, e) ∨ x ∈ M
  | [], h => by simp [insM] at h; exact .inl h
  | y :: l, h => by
    rw [insM] at h
    split at h
    · rcases List.mem_cons.1 h with h | h
      · exact .inl h
      · exact .inr h
    · split at h
      · rcases List.mem_cons.1 h with h | h
        · exact .inl h
        · exact .inr (List.mem_cons_of_mem _ h)
      · rcases List.mem_cons.1 h with h | h
        · exact .inr (by rw [h]; simp)
        · rcases mem_insM h with h | h
          · exact .inl h
          · exact .inr (List.mem_cons_of_mem _ h)
theorem less_tot {a b : ID} (h1 : ¬ lessI a b = true) (h2 : a ≠ b) : lessI b a = true := by
  unfold lessI at *
  simp only [decide_eq_true_eq] at *
  have : ¬ (a.c = b.c ∧ a.s = b.s) := fun ⟨x, y⟩ => h2 (by cases a; cases b; simp_all)
  omega
theorem less_tr {a b c : ID} (h1 : lessI a b = true) (h2 : lessI b c = true) : lessI a c = true := by
  unfold lessI at *
  simp only [decide_eq_true_eq] at *
  omega
theorem less_irr (a : ID) : ¬ lessI a a = true := by unfold lessI; simp
theorem up_insM {a : ID} {e : EN} : ∀ {M : List IE}, upM M → upM (insM a e M)
  | [], _ => List.pairwise_singleton _ _
  | y :: l, h => by
    obtain ⟨h1, h2⟩ := List.pairwise_cons.1 h
    rw [insM]
    split
    · next hl =>
      refine List.pairwise_cons.2 ⟨fun x hx => ?_, h⟩
      rcases List.mem_cons.1 hx with rfl | hx
      · exact hl
      · exact less_tr hl (h1 x hx)
    · next hl =>
      split
      · next he => exact List.pairwise_cons.2 ⟨fun x hx => by show lessI a x.1 = true; rw [he]; exact h1 x hx, h2⟩
      · next he =>
        refine List.pairwise_cons.2 ⟨fun x hx => ?_, up_insM h2⟩
        rcases mem_insM hx with rfl | hx
        · exact less_tot hl he
        · exact h1 x hx
theorem alook_up {a : ID} : ∀ {M : List IE}, (∀ x, x ∈ M → lessI a x.1 = true) → alook a M = none
  | [], _ => rfl
  | y :: l, h => by
    have h1 := h y (by simp)
    rw [alook, if_neg (fun e => less_irr y.1 (by rw [e] at h1; exact h1)), alook_up fun x hx => h x (List.mem_cons_of_mem _ hx)]
theorem len_insM {a : ID} {e : EN} : ∀ {M : List IE}, upM M → (insM a e M).length = if (alook a M).isSome = true then M.length else M.length + 1
  | [], _ => rfl
  | y :: l, h => by
    obtain ⟨h1, h2⟩ := List.pairwise_cons.1 h
    rw [insM]
    split
    · next hl =>
      have hn : alook a (y :: l) = none := alook_up fun x hx => by
        rcases List.mem_cons.1 hx with rfl | hx
        · exact hl
        · exact less_tr hl (h1 x hx)
      rw [hn]; rfl
    · next hl =>
      split
      · next he => rw [alook, if_pos he]; rfl
      · next he =>
        rw [alook, if_neg he, List.length_cons, len_insM h2]
        split <;> simp
theorem alook_insM {a b : ID} {e : EN} : ∀ {M : List IE}, upM M → alook b (insM a e M) = if b = a then some e else alook b M
  | [], _ => by rw [insM, alook]; simp [alook]
  | y :: l, h => by
    obtain ⟨h1, h2⟩ := List.pairwise_cons.1 h
    rw [insM]
    split
    · next hl => rw [alook]
    · next hl =>
      split
      · next he =>
        rw [alook, alook, ← he]
        by_cases hb : b = a
        · rw [if_pos hb, if_pos hb]
        · rw [if_neg hb, if_neg hb, if_neg hb]
      · next he =>
        rw [alook, alook, alook_insM h2]
        by_cases hb : b = y.1
        · rw [if_pos hb, if_pos hb, if_neg (fun e => he (e.symm.trans hb))]
        · rw [if_neg hb, if_neg hb]
theorem alook_key {a : ID} (ha : mayI a = true) : ∀ (M : List IE), (∀ x, x ∈ M → mayI x.1 = true) → alook (keyI a) (M.map fun x => (keyI x.1, x.2)) = alook a M
  | [], _ => rfl
  | y :: l, h => by
    rw [List.map_cons, alook, alook, alook_key ha l fun x hx => h x (List.mem_cons_of_mem _ hx)]
    by_cases hb : a = y.1
    · rw [if_pos hb, if_pos (by rw [hb])]
    · rw [if_neg hb, if_neg fun e => hb (key_inj ha (h y (by simp)) e)]
theorem getM_is {p : PT} {n : Int} {M : List IE} (h : isM p n M) (a : ID) : getM p a = alook a M := by
  unfold getM
  by_cases ha : mayI a = true
  · rw [if_pos ha, elems_get 8 0 (keyI a) p h.wf (by simp) (by have := keyI_lt ha; simp; omega), h.el, alook_key ha M h.may]
  · rw [if_neg ha, alook_none fun x hx e => ha (by rw [e]; exact h.may x hx)]
theorem put_is {p : PT} {n : Int} {M : List IE} (h : isM p n M) {a : ID} (ha : mayI a = true) (e : EN) : isM (PT.put 8 (keyI a) e p) (if (getM p a).isSome = true then n else n + 1) (insM a e M) := by
  refine ⟨put_wf 8 _ e p h.wf, ?_, ?_, fun x hx => ?_, up_insM h.up⟩
  · rw [elems_put 8 0 (keyI a) e p h.wf (by simp) (by have := keyI_lt ha; simp; omega), h.el, insK_map ha M h.may]
  · rw [len_insM h.up, getM_is h, h.len]
    split <;> simp
  · rcases mem_insM hx with rfl | hx
    · exact ha
    · exact h.may x hx
def lastI (M : List IE) : ID := match M.getLast? with
  | some x => x.1
  | none => ⟨0, 0⟩
theorem last_is {p : PT} {n : Int} {M : List IE} (h : isM p n M) : lastM p = lastI M := by
  unfold lastI
  cases hx : M.getLast? with
  | none =>
    have : M = [] := List.getLast?_eq_none_iff.1 hx
    subst this
    exact lastM_none h.el
  | some x =>
    have h1 : (elems 8 0 p).getLast? = some (keyI x.1, x.2) := by rw [h.el, List.getLast?_map, hx]; rfl
    rw [lastM_some h1]
    exact namK_key (h.may x (List.mem_of_getLast? hx))
abbrev ieA (x : IE) : List AV := [idv x.1, env x.2]
theorem all_is {p : PT} {n : Int} {M : List IE} (h : isM p n M) : (elems 8 0 p).map keA = M.map ieA := by
  rw [h.el, List.map_map]
  refine List.map_congr_left fun x hx => ?_
  show [idv (namK (keyI x.1)), env x.2] = _
  rw [namK_key (h.may x hx)]
end Go.Proofs.E
