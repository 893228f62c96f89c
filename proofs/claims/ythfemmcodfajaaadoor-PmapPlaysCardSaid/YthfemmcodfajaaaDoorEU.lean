/- Small laws of lists. -/
import Derived.Test.YthfemmcodfajaaaDoorGX
set_option linter.unusedVariables false
set_option linter.unusedSimpArgs false
namespace Go.Proofs.E
theorem take_snoc {α : Type} {l : List α} {i : Nat} {x : α} (h : l[i]? = some x) : l.take (i + 1) = l.take i ++ [x] := by
  rw [List.take_add_one, h]; rfl
theorem all_snoc {α : Type} {p : α → Prop} {l : List α} {x : α} (h : ∀ y, y ∈ l → p y) (hx : p x) : ∀ y, y ∈ l ++ [x] → p y := fun y hy => by
  rcases List.mem_append.1 hy with h1 | h1
  · exact h y h1
  · rw [List.mem_singleton.1 h1]; exact hx
open Go Go.Gv
theorem some_arr {i k n m : Nat} (h : n = m) : some (AV.arr i k n) = some (AV.arr i k m) := by rw [h]
theorem some_ear {k : Nat} {xs ys : List (List D)} (h : xs = ys) : some (Ent.arr k xs) = some (Ent.arr k ys) := by rw [h]
end Go.Proofs.E
