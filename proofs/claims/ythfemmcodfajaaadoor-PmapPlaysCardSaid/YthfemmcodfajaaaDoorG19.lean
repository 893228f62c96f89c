/- Calls of the library that return a new row. -/
import Derived.Test.YthfemmcodfajaaaDoorG18
set_option linter.unusedVariables false
set_option linter.unusedSimpArgs false
namespace Go.Gv
open Go.RowKit
/-- Rows of a new block. -/
theorem Ct.of_alloc {Λ : Amb} {P : Program} {f : FuncId} (xs : List Value) (us : List Value) (t : TypeId) (hu : ∀ u, u ∈ us → u.oneCell' = true) (hn : us.length ≤ 9223372036854775807)
    (h : ∀ (w : World), Λ.p w → Calls P f xs.toArray w fun e w' => e = .returned (.slice (some ⟨w.heap.size, 0, none⟩) us.length us.length) ∧ w' = w.alloc (.cells us.toArray t)) :
    Ct Λ P f (scalars xs) [] (fun r _ => r = .full 1 (us.map fun u => [.v u])) :=
  Ct.of_calls fun γ H w vs hΛ hok hl hr => by
    rw [scalars_eq hl hr]
    refine (h w hΛ).mono fun e w' ⟨he, hw⟩ => ?_
    have hfree : ∀ o, H.c w.heap.size o = none := fun o => by
      cases hx : H.c w.heap.size o with
      | none => rfl
      | some v => have := lt_of_cell (hok.c _ _ _ hx); omega
    have hblk : w'.heap[w.heap.size]? = some (.cells us.toArray t (0, 0)) := by rw [hw]; exact World.alloc_heap_new w _
    have hkeep : Keeps w (fun _ => False) w' := by
      rw [hw]; exact ⟨rfl, rfl, rfl, by simp, fun k hk _ => Below.heap_alloc w _ k hk⟩
    refine ⟨_, ⟨fun c o => if c = w.heap.size then us[o]? else H.c c o, H.m⟩, he, ?_, ⟨hkeep, ⟨fun c o v hv => ?_, fun _ _ hx => hx⟩, ⟨fun c o v hv => ?_, fun _ _ hx => .inl hx⟩, ⟨fun c o v hv => ?_, fun c es k hx => ?_⟩,
      fun i e h => by simp [look] at h, fun i e h => by simp [look] at h, fun i e h => by simp [look] at h, fun i e j e' b h => by simp [look] at h⟩⟩
    · have key := Rep.full (γ := γ) (H := ⟨fun c o => if c = w.heap.size then us[o]? else H.c c o, H.m⟩) 1 (us.map fun u => [D.v u]) (some ⟨w.heap.size, 0, none⟩) (by
        refine .sl 1 _ _ _ w.heap.size 0 (fun j i => us.getD j .nilIface) (fun cs hcs => ?_) (Nat.le_refl _) (by simpa using hn) (fun _ => rfl) (fun j i hj hi => ?_) (fun j i cs a hj ha => ?_)
        · simp only [List.mem_map] at hcs
          obtain ⟨u, _, rfl⟩ := hcs; rfl
        · simp only [if_true]
          have : j < us.length := by simpa using hj
          rw [show 0 + j * 1 + i = j by omega]
          simp [List.getD, this]
        · simp only [List.getElem?_map, Option.map_eq_some_iff] at hj
          obtain ⟨u, hu', rfl⟩ := hj
          cases i with
          | zero => simp at ha; subst ha; simp only [List.getD, hu', Option.getD_some]; exact .v u (hu u (List.mem_of_getElem? hu'))
          | succ i => simp at ha)
      simpa using key
    · by_cases e : c = w.heap.size
      · subst e; rw [hfree] at hv; cases hv
      · show (if c = w.heap.size then us[o]? else H.c c o) = some v
        rw [if_neg e]; exact hv
    · by_cases e : c = w.heap.size
      · exact .inr (.inl (by omega))
      · simp only [if_neg e] at hv; exact .inl hv
    · by_cases e : c = w.heap.size
      · subst e
        simp only [if_true] at hv
        rw [cell_of_block hblk]; exact hv
      · simp only [if_neg e] at hv
        have h1 := hok.c c o v hv
        have hlt := lt_of_cell h1
        simp only [World.cell?] at h1 ⊢
        rw [hkeep.block c hlt id]; exact h1
    · have h1 := hok.m c es k hx
      exact (hkeep.block c (lt_of_heap h1) id).trans h1
end Go.Gv
