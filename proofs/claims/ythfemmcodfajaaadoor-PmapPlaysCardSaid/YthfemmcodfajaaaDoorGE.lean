/- append, with its premises reckoned. -/
import Derived.Test.YthfemmcodfajaaaDoorGD
import Derived.Test.YthfemmcodfajaaaDoorG6
set_option linter.unusedVariables false
set_option linter.unusedSimpArgs false
namespace Go.Gv
open Go.RowKit
/-- The element type of what is appended to, and of what is appended. -/
def elInfo (P : Program) (st xt : TypeId) : Option Nat := match und P st, und P xt with
  | some (.slice e), some (.slice e') => (match Nat.beq e e', szOf P e, zeroOf P e, inf P e with
    | true, some k, some z, some ti => (match Nat.beq z.cells.size k && !Nat.beq ti.bytes 0 && Nat.ble ti.bytes 65536 with
      | true => some k
      | false => none)
    | _, _, _, _ => none)
  | _, _ => none
theorem elInfo_out {P : Program} {st xt : TypeId} {k : Nat} (h : elInfo P st xt = some k) : ∃ (el : TypeId) (z : Value) (bytes : Nat), P.underlying st = some (.slice el) ∧ P.underlying xt = some (.slice el) ∧ (∀ w, (sizeOf el).run P w = .ok k w) ∧ (∀ w, (zeroValue el).run P w = .ok z w) ∧ z.cells.size = k ∧
    (∀ w, ((fun i : TypeInfo => i.bytes) <$> typeInfo el).run P w = .ok bytes w) ∧ bytes ≠ 0 ∧ bytes ≤ 65536 := by
  simp only [elInfo, und_eq, inf_eq] at h
  split at h
  · next e e' h1 h2 =>
    split at h
    · next k' z ti h3 h4 h5 h6 =>
      split at h
      · next hb =>
        simp only [Option.some.injEq] at h
        subst h
        simp only [Bool.and_eq_true, Bool.not_eq_true', Nat.beq_eq, Nat.ble_eq] at hb
        have h3' : e = e' := by simpa using h3
        subst h3'
        refine ⟨e, z, ti.bytes, h1, h2, szOf_run h4, zeroOf_run h5, hb.1.1, fun w => by simp [typeInfo, h6], fun x => ?_, hb.2⟩
        have := hb.1.2
        rw [x] at this; cases this
      · cases h
    · cases h
  · cases h
theorem bytes_fit {n b : Nat} (h : n ≤ 1000000000) (hb : b ≤ 65536) : (3 * n + 4096) * b ≤ 281474976710656 :=
  Nat.le_trans (Nat.mul_le_mul (show 3 * n + 4096 ≤ 3000004096 by omega) hb) (by decide)
section append
variable {X : Cx} {d : Option Nat} {ty : TypeId} {pos : String} {aft : Array Edge} {g : Option (Nat × Bool)} {t : T} {σ : Sg} {K : T → Sg → Prop}
theorem O.appA {x y : Operand} {st xt : TypeId} {i k n : Nat} {xs ys : List (List D)} {av : AV} (hN : dOk d X.N = true) (hx : ge t x = some (.arr i k n)) (hy : ge t y = some av) (hi : look i σ = some (.arr k xs)) (hel : elems av = some (k, ys)) (hI : elInfo X.P st xt = some k)
    (hpin : X.pin.all (fun j => !Nat.beq i j) = true) (hn : xs.length = n) (hb : n + ys.length ≤ 1000000000)
    (kk : K (putT d (.arr i k (n + ys.length)) (dropT i t)) ((i, .arr k (xs ++ ys)) :: dropS i σ)) :
    OpJ X ⟨d, .call { callee := .builtin .append, args := #[x, y], argTypes := #[st, xt] }, ty, pos, aft, g⟩ t σ K := by
  obtain ⟨el, z, bytes, h1, h2, h3, h4, h5, h6, h7, h8⟩ := elInfo_out hI
  refine O.appendA hN hx hy hi hn hel h1 h2 h3 h4 h5 h6 h7 (bytes_fit hb h8) (fun hp => ?_) kk
  have := List.all_eq_true.1 hpin i hp
  simp at this
theorem O.appF {i : Nat} {x y : Operand} {st xt : TypeId} {k : Nat} {xs ys : List (List D)} {av0 av : AV} (hN : dOk (some i) X.N = true) (hx : ge t x = some av0) (hfu : FullIs av0 k xs) (hy : ge t y = some av) (hel : elems av = some (k, ys)) (hI : elInfo X.P st xt = some k)
    (hf : isFresh i t σ X.pin = true) (hb : xs.length + ys.length ≤ 1000000000) (hne : ys ≠ [] ∨ xs = [])
    (kk : K ((i, .arr i k (xs.length + ys.length)) :: t) ((i, .arr k (xs ++ ys)) :: σ)) :
    OpJ X ⟨some i, .call { callee := .builtin .append, args := #[x, y], argTypes := #[st, xt] }, ty, pos, aft, g⟩ t σ K := by
  obtain ⟨el, z, bytes, h1, h2, h3, h4, h5, h6, h7, h8⟩ := elInfo_out hI
  exact O.appendF hN hx hfu hy hel h1 h2 h3 h4 h5 h6 h7 (bytes_fit hb h8) hf hne kk
theorem O.appD {i : Nat} {x y : Operand} {st xt : TypeId} {k : Nat} {xs ys : List (List D)} {av0 av : AV} (hN : dOk (some i) X.N = true) (hx : ge t x = some av0) (hfu : FullIs av0 k xs) (hy : ge t y = some av) (hel : elems av = some (k, ys)) (hI : elInfo X.P st xt = some k)
    (hf : isFresh i t σ X.pin = true) (hb : xs.length + ys.length ≤ 1000000000)
    (kk : K ((i, .d (.sl k (xs ++ ys))) :: t) σ) :
    OpJ X ⟨some i, .call { callee := .builtin .append, args := #[x, y], argTypes := #[st, xt] }, ty, pos, aft, g⟩ t σ K := by
  obtain ⟨el, z, bytes, h1, h2, h3, h4, h5, h6, h7, h8⟩ := elInfo_out hI
  exact O.appendD hN hx hfu hy hel h1 h2 h3 h4 h5 h6 h7 (bytes_fit hb h8) hf (by omega) kk

/-- append, in the reckoning: onto a private row. -/
def eApp (X : Cx) (d : Option Nat) (x y : Operand) (st xt : TypeId) (t : T) (σ : Sg) (K : T → Sg → Prop) (F : Prop) : Prop := match ge t x, ge t y with
  | some (.arr i k n), some av => (match look i σ, elems av with
    | some (.arr k' xs), some (k2, ys) => (match elInfo X.P st xt with
      | some k3 => (match Nat.beq k' k && Nat.beq k2 k && Nat.beq k3 k && X.pin.all (fun j => !Nat.beq i j) && dOk d X.N with
        | true => Req (xs.length = n ∧ n + ys.length ≤ 1000000000) (K (putT d (.arr i k (n + ys.length)) (dropT i t)) ((i, .arr k (xs ++ ys)) :: dropS i σ))
        | false => F)
      | none => F)
    | _, _ => F)
  | _, _ => F
theorem eApp_sound {x y : Operand} {st xt : TypeId} (h : eApp X d x y st xt t σ K (OpJ X ⟨d, .call { callee := .builtin .append, args := #[x, y], argTypes := #[st, xt] }, ty, pos, aft, g⟩ t σ K)) :
    OpJ X ⟨d, .call { callee := .builtin .append, args := #[x, y], argTypes := #[st, xt] }, ty, pos, aft, g⟩ t σ K := by
  unfold eApp at h
  split at h
  · next i k n av hx hy =>
    split at h
    · next k' xs k2 ys hi hel =>
      split at h
      · next k3 hI =>
        split at h
        · next hb =>
          simp only [Bool.and_eq_true, Nat.beq_eq] at hb
          obtain ⟨⟨⟨⟨h1, h2⟩, h3⟩, h4⟩, h5⟩ := hb
          subst h1; subst h2; subst h3
          exact O.appA h5 hx hy hi hel hI h4 h.1.1 h.1.2 h.2
        · exact h
      · exact h
    · exact h
  · exact h
end append
end Go.Gv
