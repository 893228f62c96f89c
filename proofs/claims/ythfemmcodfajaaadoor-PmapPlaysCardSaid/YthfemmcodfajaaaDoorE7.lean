/- An id's text, read again. -/
import Derived.Test.YthfemmcodfajaaaDoorE2
import Derived.Lib.Index
import Derived.Lib.IndexMore
set_option linter.unusedVariables false
set_option linter.unusedSimpArgs false
open Go Go.Gv
attribute [local irreducible] Go.Gv.WJ Go.Gv.OpJ Go.Gv.QJ Go.Gv.Spl Go.Gv.Req Go.Gv.IdxP Go.Gv.RegP Go.Gv.FinP Go.Gv.QuietP Go.Gv.CellP Go.Gv.CellsP Go.Gv.ArrP Go.Gv.ArrsP Go.Gv.DropP Go.Gv.ByteP Go.Gv.StoreP
set_option maxRecDepth 100000
namespace Go.Proofs.E
/-! ### Digits -/
theorem dd_byte (n : Nat) : ∀ b, b ∈ Lib.decDigits n → 48 ≤ b.toNat ∧ b.toNat ≤ 57 := by
  induction n using Nat.strongRecOn with
  | _ n ih =>
    intro b hb
    rw [Lib.decDigits] at hb
    split at hb
    · simp at hb; subst hb; simp; omega
    · rcases List.mem_append.1 hb with h | h
      · exact ih (n / 10) (by omega) b h
      · simp at h; subst h; simp; omega
theorem dd_ne (n : Nat) : Lib.decDigits n ≠ [] := by
  rw [Lib.decDigits]; split <;> simp
theorem dd_head (n : Nat) : (Lib.decDigits n).length = 1 ∨ ∃ b r, Lib.decDigits n = b :: r ∧ b.toNat ≠ 48 := by
  induction n using Nat.strongRecOn with
  | _ n ih =>
    rw [Lib.decDigits]
    split
    · left; rfl
    · right
      rcases ih (n / 10) (by omega) with h | ⟨b, r, h, hb⟩
      · have : n / 10 < 10 := by
          rcases Nat.lt_or_ge (n / 10) 10 with h' | h'
          · exact h'
          · rw [Lib.decDigits, dif_neg (by omega)] at h
            exact absurd (by simpa using h) (dd_ne (n / 10 / 10))
        rw [Lib.decDigits, dif_pos this]
        refine ⟨_, _, rfl, ?_⟩
        simp; omega
      · rw [h]; exact ⟨b, _, rfl, hb⟩
def val (l : List UInt8) : Nat := l.foldl (fun a b => 10 * a + (b.toNat - 48)) 0
theorem val_snoc (l : List UInt8) (b : UInt8) : val (l ++ [b]) = 10 * val l + (b.toNat - 48) := by simp [val]
theorem dd_val (n : Nat) : val (Lib.decDigits n) = n := by
  induction n using Nat.strongRecOn with
  | _ n ih =>
    rw [Lib.decDigits]
    split
    · simp [val]; omega
    · rw [val_snoc, ih (n / 10) (by omega)]; simp; omega
theorem fold_lt : ∀ (l : List UInt8) (a : Nat), (∀ b, b ∈ l → b.toNat ≤ 57) → l.foldl (fun a b => 10 * a + (b.toNat - 48)) a < (a + 1) * 10 ^ l.length
  | [], a, _ => by simp
  | b :: r, a, h => by
    have h1 := fold_lt r (10 * a + (b.toNat - 48)) fun c hc => h c (by simp [hc])
    have h2 := h b (by simp)
    rw [List.foldl_cons, List.length_cons, Nat.pow_succ]
    refine Nat.lt_of_lt_of_le h1 ?_
    rw [Nat.mul_comm (10 ^ r.length) 10, ← Nat.mul_assoc]
    exact Nat.mul_le_mul_right _ (by omega)
theorem val_lt (l : List UInt8) (h : ∀ b, b ∈ l → b.toNat ≤ 57) : val l < 10 ^ l.length := by simpa [val] using fold_lt l 0 h
theorem take_succ {l : List UInt8} {i : Nat} (h : i < l.length) : l.take (i + 1) = l.take i ++ [l[i]] := by simp

theorem whole_c (l : List UInt8) (hl : l.length ≤ 1000000) (hb : ∀ b, b ∈ l → 48 ≤ b.toNat ∧ b.toNat ≤ 57) (hh : l.length = 1 ∨ ∃ b r, l = b :: r ∧ b.toNat ≠ 48) : Cv 59 [sv l] (bv true) := by
  refine Ct.of_vc Tryd.f59 Tryd.func59 rfl rfl fun w H B g0 => ?_
  refine WJ.loopF (V := Nat) (fun v => [(6, iv v)]) (fun _ => []) (fun v => l.length - v) (fun v => v ≤ l.length) 0 (by omega) (by repeat' (first | exact trivial | exact rfl | refine And.intro ?_ ?_)) (by repeat' (first | exact trivial | exact rfl | refine And.intro ?_ ?_)) ?_
  intro i hi
  refine Spl.of (fun h => ?_) (fun h => ?_)
  · have hlt : i < l.length := by have := of_decide_eq_true h; simp at this; omega
    have hbi := hb l[i] (by simp)
    (repeat (first | refine Spl.t rfl ?_ | refine Spl.f rfl ?_))
    refine ByteP.of l[i] (by omega) (by simp [hlt]) ?_
    refine Spl.f (decide_eq_false (by omega)) ?_
    (repeat (first | refine Spl.t rfl ?_ | refine Spl.f rfl ?_))
    refine ByteP.of l[i] (by omega) (by simp [hlt]) ?_
    (repeat (first | refine Spl.t rfl ?_ | refine Spl.f rfl ?_))
    refine Spl.f (decide_eq_false (by omega)) ?_
    (repeat (first | refine Spl.t rfl ?_ | refine Spl.f rfl ?_))
    exact ⟨i + 1, by omega, by omega, ⟨some_iv (wrap_id _ (by omega) (by omega)), trivial⟩, (by repeat' (first | exact trivial | exact rfl | refine And.intro ?_ ?_)), (by repeat' (first | exact trivial | exact rfl | refine And.intro ?_ ?_))⟩
  · (repeat (first | refine Spl.t rfl ?_ | refine Spl.f rfl ?_))
    have hne : l ≠ [] := by
      rcases hh with h1 | ⟨b, r, rfl, _⟩
      · intro e; subst e; simp at h1
      · simp
    refine Spl.t (by simp [hne]) ?_
    (repeat (first | refine Spl.t rfl ?_ | refine Spl.f rfl ?_))
    refine Spl.of (fun h1 => ?_) (fun h1 => ?_)
    · (repeat (first | refine Spl.t rfl ?_ | refine Spl.f rfl ?_))
      exact FinP.open rfl rfl
    · have h1' : l.length ≠ 1 := by have := of_decide_eq_false h1; omega
      rcases hh with h2 | ⟨b, r, rfl, h2⟩
      · exact absurd h2 h1'
      · (repeat (first | refine Spl.t rfl ?_ | refine Spl.f rfl ?_))
        refine ByteP.of b (by decide) rfl ?_
        (repeat (first | refine Spl.t rfl ?_ | refine Spl.f rfl ?_))
        exact FinP.open rfl (congrArg bv (by simp; omega))
theorem num_step {v b w : Nat} (h1 : 48 ≤ b) (h2 : b ≤ 57) (h : w = 10 * v + (b - 48)) (hw : w < 10 ^ 18) : IntKind.i64.wrap (IntKind.i64.wrap (10 * (v : Int)) + IntKind.i64.wrap (IntKind.u8.wrap ((b : Int) - 48))) = (w : Int) := by
  rw [wrap_u8 _ (by omega) (by omega), wrap_id (10 * (v : Int)) (by omega) (by omega), wrap_id ((b : Int) - 48) (by omega) (by omega), wrap_id _ (by omega) (by omega)]
  omega
theorem Number_c (l : List UInt8) (most : Int) (hl : l.length ≤ 18) (h0 : l ≠ []) (hb : ∀ b, b ∈ l → 48 ≤ b.toNat ∧ b.toNat ≤ 57) (hh : l.length = 1 ∨ ∃ b r, l = b :: r ∧ b.toNat ≠ 48) (hm : (val l : Int) ≤ most) : Cv 60 [sv l, iv most] (.tup [iv (val l), bv true]) := by
  refine Ct.of_vc Tryd.f60 Tryd.func60 rfl rfl fun w H B g0 => ?_
  have hstep : ∀ i, (h : i < l.length) → val (l.take (i + 1)) = 10 * val (l.take i) + (l[i].toNat - 48) := fun i h => by rw [take_succ h, val_snoc]
  have hsmall : ∀ i, val (l.take i) < 10 ^ 18 := fun i => by
    have h1 := val_lt (l.take i) fun b h => (hb b (List.mem_of_mem_take h)).2
    exact Nat.lt_of_lt_of_le h1 (Nat.pow_le_pow_right (by decide) (by simp; omega))
  refine Spl.f (by simp [h0]) ?_
  (repeat (first | refine Spl.t rfl ?_ | refine Spl.f rfl ?_))
  refine Spl.of (fun h1 => ?_) (fun h1 => ?_)
  · rcases hh with h2 | ⟨b, r, hl2, h2⟩
    · have := of_decide_eq_true h1; omega
    · (repeat (first | refine Spl.t rfl ?_ | refine Spl.f rfl ?_))
      refine ByteP.of b (by decide) (by rw [hl2]; rfl) ?_
      (repeat (first | refine Spl.t rfl ?_ | refine Spl.f rfl ?_))
      refine Spl.f (decide_eq_false (by omega)) ?_
      (repeat (first | refine Spl.t rfl ?_ | refine Spl.f rfl ?_))
      (refine Spl.f (decide_eq_false (by omega)) ?_; (repeat (first | refine Spl.t rfl ?_ | refine Spl.f rfl ?_)); refine WJ.loopF (V := Nat) (fun v => [(27, iv v), (6, iv (val (l.take v)))]) (fun _ => []) (fun v => l.length - v) (fun v => v ≤ l.length) 0 (by omega) (by repeat' (first | exact trivial | exact rfl | refine And.intro ?_ ?_)) (by repeat' (first | exact trivial | exact rfl | refine And.intro ?_ ?_)) ?_; intro i hi; refine Spl.of (fun h => ?_) (fun h => ?_))
      · (have hlt : i < l.length := (by have := of_decide_eq_true h; simp at this; omega); have hbi := hb l[i] (by simp); have hs := hstep i hlt; have h18 := hsmall (i + 1); (repeat (first | refine Spl.t rfl ?_ | refine Spl.f rfl ?_)); refine ByteP.of l[i] (by omega) (by simp [hlt]) ?_; refine Spl.f (decide_eq_false (by omega)) ?_; (repeat (first | refine Spl.t rfl ?_ | refine Spl.f rfl ?_)); refine ByteP.of l[i] (by omega) (by simp [hlt]) ?_; (repeat (first | refine Spl.t rfl ?_ | refine Spl.f rfl ?_)); refine Spl.f (decide_eq_false (by omega)) ?_; (repeat (first | refine Spl.t rfl ?_ | refine Spl.f rfl ?_)); refine ByteP.of l[i] (by omega) (by simp [hlt]) ?_; exact ⟨i + 1, by omega, by omega, ⟨some_iv (wrap_id _ (by omega) (by omega)), some_iv (num_step (by omega) (by omega) hs h18), trivial⟩, (by repeat' (first | exact trivial | exact rfl | refine And.intro ?_ ?_)), (by repeat' (first | exact trivial | exact rfl | refine And.intro ?_ ?_))⟩)
      · (have he : i = l.length := (by have := of_decide_eq_false h; simp at this; omega); (repeat (first | refine Spl.t rfl ?_ | refine Spl.f rfl ?_)); refine Spl.f (decide_eq_false (by rw [he, List.take_length]; omega)) ?_; (repeat (first | refine Spl.t rfl ?_ | refine Spl.f rfl ?_)); refine FinP.open rfl ?_; show AV.tup [iv (val (l.take i)), _] = _; rw [he, List.take_length]; rfl)
  · (repeat (first | refine Spl.t rfl ?_ | refine Spl.f rfl ?_))
    (refine Spl.f (decide_eq_false (by omega)) ?_; (repeat (first | refine Spl.t rfl ?_ | refine Spl.f rfl ?_)); refine WJ.loopF (V := Nat) (fun v => [(27, iv v), (6, iv (val (l.take v)))]) (fun _ => []) (fun v => l.length - v) (fun v => v ≤ l.length) 0 (by omega) (by repeat' (first | exact trivial | exact rfl | refine And.intro ?_ ?_)) (by repeat' (first | exact trivial | exact rfl | refine And.intro ?_ ?_)) ?_; intro i hi; refine Spl.of (fun h => ?_) (fun h => ?_))
    · (have hlt : i < l.length := (by have := of_decide_eq_true h; simp at this; omega); have hbi := hb l[i] (by simp); have hs := hstep i hlt; have h18 := hsmall (i + 1); (repeat (first | refine Spl.t rfl ?_ | refine Spl.f rfl ?_)); refine ByteP.of l[i] (by omega) (by simp [hlt]) ?_; refine Spl.f (decide_eq_false (by omega)) ?_; (repeat (first | refine Spl.t rfl ?_ | refine Spl.f rfl ?_)); refine ByteP.of l[i] (by omega) (by simp [hlt]) ?_; (repeat (first | refine Spl.t rfl ?_ | refine Spl.f rfl ?_)); refine Spl.f (decide_eq_false (by omega)) ?_; (repeat (first | refine Spl.t rfl ?_ | refine Spl.f rfl ?_)); refine ByteP.of l[i] (by omega) (by simp [hlt]) ?_; exact ⟨i + 1, by omega, by omega, ⟨some_iv (wrap_id _ (by omega) (by omega)), some_iv (num_step (by omega) (by omega) hs h18), trivial⟩, (by repeat' (first | exact trivial | exact rfl | refine And.intro ?_ ?_)), (by repeat' (first | exact trivial | exact rfl | refine And.intro ?_ ?_))⟩)
    · (have he : i = l.length := (by have := of_decide_eq_false h; simp at this; omega); (repeat (first | refine Spl.t rfl ?_ | refine Spl.f rfl ?_)); refine Spl.f (decide_eq_false (by rw [he, List.take_length]; omega)) ?_; (repeat (first | refine Spl.t rfl ?_ | refine Spl.f rfl ?_)); refine FinP.open rfl ?_; show AV.tup [iv (val (l.take i)), _] = _; rw [he, List.take_length]; rfl)
end Go.Proofs.E
