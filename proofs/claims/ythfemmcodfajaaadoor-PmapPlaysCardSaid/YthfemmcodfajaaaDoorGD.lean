/- append onto data that has no room: a new private row. -/
import Derived.Test.YthfemmcodfajaaaDoorGB
set_option linter.unusedVariables false
set_option linter.unusedSimpArgs false
namespace Go.Gv
open Go.RowKit
theorem OpJ.after {X : Cx} {o : Oper} {t : T} {σ : Sg} {K : T → Sg → Prop} (h : OpJ X o t σ (fun t σ => ∃ t' σ', SJ X t σ t' σ' ∧ K t' σ')) : OpJ X o t σ K :=
  fun γ H a w s next Q' hn => h γ H a w s next Q' fun γ H t σ a' w' s' ⟨t', σ', hs, k⟩ => let ⟨γ', H', s''⟩ := hs γ H a' w' s'; hn γ' H' t' σ' a' w' s'' k
/-- A slice that has no room. -/
inductive FullIs : AV → Nat → List (List D) → Prop where
  | full (k : Nat) (xs : List (List D)) : FullIs (.full k xs) k xs
  | nil (k : Nat) : FullIs (.d (.v (.slice none 0 0))) k []
theorem FullIs.rep {a : AV} {k : Nat} {xs : List (List D)} (h : FullIs a k xs) {γ : Ids} {H : HF} {u : Value} (r : Rep γ H a u) : ∃ A, u = .slice A xs.length xs.length ∧ RepD H (.sl k xs) u := by
  cases h with
  | full k xs =>
    cases r with
    | full _ _ A h => exact ⟨A, rfl, h⟩
  | nil k =>
    obtain rfl := rep_v r
    exact ⟨none, rfl, .sl k [] none 0 0 0 (fun _ _ => undef) (fun _ h => by simp at h) (Nat.le_refl _) (by simp) (fun h => by simp at h) (fun _ _ h => by simp at h) (fun _ _ _ _ h => by simp at h)⟩
theorem mem_arr0 {w : World} {H : HF} (hok : HOk H w) (γ : Ids) (i k : Nat) : Mem w H (fun _ => False) (upd γ i ⟨w.heap.size, 0, fun _ => False⟩) H [(i, .arr k [])] w := by
  have one : ∀ j f, look j ([(i, Ent.arr k [])] : Sg) = some f → j = i ∧ f = .arr k [] := fun j f hj => by
    rw [look_cons] at hj
    split at hj
    · next e' => exact ⟨e', by simpa using hj.symm⟩
    · simp [look] at hj
  refine ⟨Keeps.refl _ _, HLe.refl _, HNew.refl _ _ _, hok, fun j f hj => ?_, fun j f hj b hb => ?_, fun j f hj b hb => ?_, fun j f l f' b hj hl hb hb' => ?_⟩
  · obtain ⟨rfl, rfl⟩ := one j f hj
    refine ⟨Nat.zero_le _, fun _ h => by simp at h, fun h => ?_⟩
    rw [upd_same] at h; simp at h
  · obtain ⟨rfl, rfl⟩ := one j f hj
    have := hb.2; rw [upd_same] at this; simp at this
  · obtain ⟨rfl, rfl⟩ := one j f hj
    have := hb.2; rw [upd_same] at this; simp at this
  · obtain ⟨rfl, rfl⟩ := one j f hj
    have := hb.2; rw [upd_same] at this; simp at this
theorem sub0_a (i k : Nat) (xs : List (List D)) (a : AV) : sub0 i (.a k xs) a = a := by
  cases a <;> simp only [sub0] <;> split <;> simp_all
theorem map_idl {α : Type} {f : α → α} (h : ∀ a, f a = a) (l : List α) : l.map f = l := by rw [show f = id from funext h, List.map_id]
theorem sub1_a (i k : Nat) (xs : List (List D)) (a : AV) : sub1 i (.a k xs) a = a := by
  cases a <;> simp only [sub1, sub0_a, map_idl (sub0_a i k xs)]
theorem sub2_a (i k : Nat) (xs : List (List D)) (a : AV) : sub2 i (.a k xs) a = a := by
  cases a <;> simp only [sub2, sub0_a, map_idl (sub1_a i k xs)]
theorem subS_a (i k : Nat) (xs : List (List D)) (σ : Sg) : subS i (.a k xs) σ = σ := by
  unfold subS
  have : (fun q : Nat × Ent => (q.1, subE i (.a k xs) q.2)) = id := by
    funext q
    obtain ⟨j, e⟩ := q
    cases e <;> simp [subE, map_idl (sub2_a i k xs)]
  rw [this, List.map_id]
section append
variable {X : Cx} {ty : TypeId} {pos : String} {aft : Array Edge} {g : Option (Nat × Bool)} {t : T} {σ : Sg} {K : T → Sg → Prop}
theorem O.appendF {i : Nat} {x y : Operand} {st xt el : TypeId} {k bytes : Nat} {z : Value} {xs ys : List (List D)} {av0 av : AV} (hN : dOk (some i) X.N = true) (hx : ge t x = some av0) (hfu : FullIs av0 k xs) (hy : ge t y = some av) (hel : elems av = some (k, ys))
    (hu : X.P.underlying st = some (.slice el)) (hxu : X.P.underlying xt = some (.slice el)) (hz : ∀ w, (sizeOf el).run X.P w = .ok k w) (hzv : ∀ w, (zeroValue el).run X.P w = .ok z w) (hzl : z.cells.size = k)
    (hb : ∀ w, ((fun i : TypeInfo => i.bytes) <$> typeInfo el).run X.P w = .ok bytes w) (hb0 : bytes ≠ 0) (hbytes : (3 * (xs.length + ys.length) + 4096) * bytes ≤ 281474976710656) (hf : isFresh i t σ X.pin = true) (hne : ys ≠ [] ∨ xs = [])
    (kk : K ((i, .arr i k (xs.length + ys.length)) :: t) ((i, .arr k (xs ++ ys)) :: σ)) :
    OpJ X ⟨some i, .call { callee := .builtin .append, args := #[x, y], argTypes := #[st, xt] }, ty, pos, aft, g⟩ t σ K := by
  intro γ H a w s next Q' hk
  obtain ⟨A, hq, hrx⟩ := hfu.rep (ge_sound s.tmp hx)
  have hry := rep_elems (ge_sound s.tmp hy) hel
  obtain ⟨hxk, _⟩ := repd_sl_len hrx
  obtain ⟨hyk, hylen⟩ := repd_sl_len hry
  obtain ⟨B, cy, vs, hqy, hfc, hvl, hvone, hvrep⟩ := repd_flat (P := X.P) hry
  obtain ⟨Bx, cx, us, hqx, hfx, hul, huone, hurep⟩ := repd_flat (P := X.P) hrx
  have hexec : ∀ r : Result Value, (Builtin.append_ #[st, xt] ty #[.slice A xs.length xs.length, a.eval y]).run X.P w = r → (execOp a.eval ⟨some i, .call { callee := .builtin .append, args := #[x, y], argTypes := #[st, xt] }, ty, pos, aft, g⟩).run X.P w =
      r.andThen fun v w => .ok (.value v) w := fun r h => by
    simp only [execOp, resolve, invoke, builtin, List.map_toArray, List.map_cons, List.map_nil, Sem.run_bind, Sem.run_pure, Result.andThen_ok, hq, h]
  by_cases hroom : xs.length + ys.length ≤ xs.length
  · have hy0 : ys = [] := List.length_eq_zero_iff.1 (by omega)
    have hx0 : xs = [] := by rcases hne with h | h; exact absurd hy0 h; exact h
    subst hx0; subst hy0
    have hrun := append_room (P := X.P) (w := w) (ty := ty) (A := A) (n := 0) (c := 0) hu hxu hz (fun w => by rw [hqy]; exact lenOf_sl) (hfc w s.mem.hok.c) (Nat.le_refl _)
    have hv0 : vs = [] := List.length_eq_zero_iff.1 (by rw [hvl]; simp)
    subst hv0
    have hrun' : (Builtin.append_ #[st, xt] ty #[.slice A ([] : List (List D)).length ([] : List (List D)).length, a.eval y]).run X.P w = .ok (.slice A 0 0) w := by
      simp only [List.length_nil] at hrun ⊢
      rw [hrun]; cases A <;> simp [storeCells]
    rw [semAt_of (by simp), hexec _ hrun', Result.andThen_ok, Oper.uponIn_value]
    refine hk _ H _ _ _ w (s.new (d := some i) (V := .arr i k 0) (v := .slice A 0 0) (n := 0) (mem_arr0 s.mem.hok γ i k) hf hN ?_) kk
    have := Rep.arr (γ := upd γ i ⟨w.heap.size, 0, fun _ => False⟩) (H := H) i k 0 A
    rw [upd_same] at this
    exact this (Nat.zero_le _) (fun h => by simp at h)
  · have hfc' : ∀ w' : World, w'.heap = w.heap → (Builtin.firstCells k ys.length (a.eval y)).run X.P w' = .ok vs.toArray w' := fun w' hw' => hfc w' fun b o v h => by
      have := s.mem.hok.c b o v h
      simp only [World.cell?, hw'] at this ⊢; exact this
    have hus : ∀ w' : World, w'.heap = w.heap → (Builtin.firstCells k xs.length (.slice A xs.length xs.length)).run X.P w' = .ok us.toArray w' := fun w' hw' => by
      rw [← hq]
      exact hfx w' fun b o v h => by
        have := s.mem.hok.c b o v h
        simp only [World.cell?, hw'] at this ⊢; exact this
    obtain ⟨cap, hcap, hrun⟩ := append_grow (P := X.P) (w := w) (ty := ty) (A := A) (n := xs.length) (c := xs.length) (us := us) (vs := vs) hu hxu hz hzv hb (fun w => by rw [hqy]; exact lenOf_sl) hfc' hus (by omega) hbytes hb0
    rw [semAt_of (by simp), hexec _ hrun, Result.andThen_ok, Oper.uponIn_value]
    have hzc : (Builtin.zeroCells z.cells (cap - (xs.length + ys.length))).toList.length = (cap - (xs.length + ys.length)) * k := by
      simp [Builtin.zeroCells, hzl]
    have hm := s.mem.drew.new i (.arr k (xs ++ ys)) (.cells (us ++ vs ++ (Builtin.zeroCells z.cells (cap - (xs.length + ys.length))).toList).toArray el) cap
      ⟨by rw [upd_same, List.length_append]; exact hcap, fun cs hcs => by rcases List.mem_append.1 hcs with h | h; exact hxk cs h; exact hyk cs h, fun _ => by
        rw [upd_same]
        refine ⟨el, _, World.alloc_heap_new _ _, ?_, ?_⟩
        · rw [List.length_append, List.length_append, hzc, hul, hvl, ← Nat.add_mul, ← Nat.add_mul]
          congr 1
          show xs.length + ys.length + (cap - (xs.length + ys.length)) = cap
          omega
        · refine arr_snoc hxk hyk hurep hvrep (fun p hp => ?_) (fun p hp => ?_)
          · rw [List.append_assoc, List.getElem?_append_left (by omega)]
          · rw [List.append_assoc, List.getElem?_append_right (by omega), hul, show xs.length * k + p - xs.length * k = p from by omega, List.getElem?_append_left (by omega)]⟩ (fun _ _ h => by cases h)
    have hm' : Mem w H (fun _ => False) (upd γ i ⟨w.heap.size, cap, fun _ => False⟩) H [(i, .arr k (xs ++ ys))] (w.drew.alloc (.cells (us ++ vs ++ (Builtin.zeroCells z.cells (cap - (xs.length + ys.length))).toList).toArray el)) :=
      ⟨⟨hm.keep.os, hm.keep.tape, hm.keep.output, hm.keep.size, hm.keep.block⟩, hm.hle, ⟨hm.hnew.c, hm.hnew.m⟩, hm.hok, hm.ent, hm.free, hm.fresh, hm.apart⟩
    refine hk _ H _ _ _ _ (s.new (d := some i) hm' (V := .arr i k (xs.length + ys.length)) hf hN ?_) kk
    have := Rep.arr (γ := upd γ i ⟨w.heap.size, cap, fun _ => False⟩) (H := H) i k (xs.length + ys.length) (some ⟨w.heap.size, 0, none⟩)
    rw [upd_same] at this
    exact this hcap (fun _ => rfl)
/-- append, given to all at once. -/
theorem O.appendD {i : Nat} {x y : Operand} {st xt el : TypeId} {k bytes : Nat} {z : Value} {xs ys : List (List D)} {av0 av : AV} (hN : dOk (some i) X.N = true) (hx : ge t x = some av0) (hfu : FullIs av0 k xs) (hy : ge t y = some av) (hel : elems av = some (k, ys))
    (hu : X.P.underlying st = some (.slice el)) (hxu : X.P.underlying xt = some (.slice el)) (hz : ∀ w, (sizeOf el).run X.P w = .ok k w) (hzv : ∀ w, (zeroValue el).run X.P w = .ok z w) (hzl : z.cells.size = k)
    (hb : ∀ w, ((fun i : TypeInfo => i.bytes) <$> typeInfo el).run X.P w = .ok bytes w) (hb0 : bytes ≠ 0) (hbytes : (3 * (xs.length + ys.length) + 4096) * bytes ≤ 281474976710656) (hf : isFresh i t σ X.pin = true)
    (hm : xs.length + ys.length ≤ 9223372036854775807) (kk : K ((i, .d (.sl k (xs ++ ys))) :: t) σ) :
    OpJ X ⟨some i, .call { callee := .builtin .append, args := #[x, y], argTypes := #[st, xt] }, ty, pos, aft, g⟩ t σ K := by
  by_cases hne : ys ≠ [] ∨ xs = []
  · refine OpJ.after (O.appendF hN hx hfu hy hel hu hxu hz hzv hzl hb hb0 hbytes hf hne ⟨_, _, SJ.trans (SJ.pubA i i (look_cons _ _ _ _ |>.trans (if_pos rfl)) (look_cons _ _ _ _ |>.trans (if_pos rfl)) (by simp) hm) (SJ.wk ?_ ?_), kk⟩)
    · intro j b hj
      rw [look_cons] at hj ⊢
      split at hj
      · next e => rw [if_pos e]; simp only [Option.some.injEq] at hj ⊢; subst hj; congr 1; rw [List.take_of_length_le (by simp)]
      · next e => rw [if_neg e, look_cons, if_neg e]; exact hj
    · intro j b hj
      have hji : j ≠ i := (fresh_s hf hj).1
      rw [look_cons, if_neg hji, subS_a, look_cons, if_neg hji]; exact hj
  · have hy0 : ys = [] := Classical.byContradiction fun h => hne (.inl h)
    subst hy0
    intro γ H a w s next Q' hk
    obtain ⟨A, hq, hrx⟩ := hfu.rep (ge_sound s.tmp hx)
    have hry := rep_elems (ge_sound s.tmp hy) hel
    obtain ⟨B, cy, vs, hqy, hfc, hvl, hvone, hvrep⟩ := repd_flat (P := X.P) hry
    have hv0 : vs = [] := List.length_eq_zero_iff.1 (by rw [hvl]; simp)
    subst hv0
    have hrun := append_room (P := X.P) (w := w) (ty := ty) (A := A) (n := xs.length) (c := xs.length) hu hxu hz (fun w => by rw [hqy]; exact lenOf_sl) (hfc w s.mem.hok.c) (Nat.le_refl _)
    have hrun' : (Builtin.append_ #[st, xt] ty #[.slice A xs.length xs.length, a.eval y]).run X.P w = .ok (.slice A xs.length xs.length) w := by
      rw [hrun]; cases A <;> simp [storeCells]
    have hexec : (execOp a.eval ⟨some i, .call { callee := .builtin .append, args := #[x, y], argTypes := #[st, xt] }, ty, pos, aft, g⟩).run X.P w = .ok (.value (.slice A xs.length xs.length)) w := by
      simp only [execOp, resolve, invoke, builtin, List.map_toArray, List.map_cons, List.map_nil, Sem.run_bind, Sem.run_pure, Result.andThen_ok, hq, hrun']
    rw [semAt_of (by simp), hexec, Oper.uponIn_value]
    refine hk γ H _ _ _ w (s.calm (d := some i) (V := .d (.sl k xs)) (s.mem.refl γ) hN (.d _ _ ?_)) ?_
    · rw [← hq]; exact hrx
    · rw [List.append_nil] at kk; exact kk
end append
end Go.Gv
