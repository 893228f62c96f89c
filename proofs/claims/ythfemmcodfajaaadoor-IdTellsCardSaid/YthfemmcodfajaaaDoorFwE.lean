/- Variables in memory of the activation's own: made, loaded, stored; data that stands for good: loaded. -/
import Derived.Test.YthfemmcodfajaaaDoorFwD
set_option linter.unusedVariables false
set_option linter.unusedSimpArgs false
namespace Go.Sv
open Go.RowKit

/-- The cells of a value. -/
def avCells : AV → List AV
  | .agg cs => cs
  | a => [a]
def oneAV : AV → Bool
  | .agg _ => true
  | .tup _ => false
  | .junk => false
  | _ => true

theorem repd_one {H : HF} {x : D} {u : Value} (r : RepD H x u) : u.oneCell' = true ∧ u.cells = #[u] := by
  cases r with
  | v _ h => cases u <;> simp_all [Value.oneCell', Value.cells]
  | _ => exact ⟨rfl, rfl⟩

theorem rep_cells {γ : Ids} {H : HF} {a : AV} {u : Value} (r : Rep γ H a u) (h : oneAV a = true) :
    ∃ us : List Value, u.cells = us.toArray ∧ us.length = (avCells a).length ∧ ∀ (j : Nat) (x : AV) (y : Value), (avCells a)[j]? = some x → us[j]? = some y → Rep γ H x y := by
  have one : u.cells = #[u] → avCells a = [a] → ∃ us : List Value, u.cells = us.toArray ∧ us.length = (avCells a).length ∧ ∀ (j : Nat) (x : AV) (y : Value), (avCells a)[j]? = some x → us[j]? = some y → Rep γ H x y := by
    intro h1 h2
    refine ⟨[u], by simpa using h1, by simp [h2], fun j x y hx hy => ?_⟩
    rw [h2] at hx
    cases j with
    | zero => simp at hx hy; subst hx; subst hy; exact r
    | succ j => simp at hx
  cases r with
  | d x u hr => exact one (repd_one hr).2 rfl
  | agg cs us hl hr => exact ⟨us, by simp [Value.cells], hl, hr⟩
  | tup => simp [oneAV] at h
  | junk => simp [oneAV] at h
  | fnp f cs us hl hr => exact one rfl rfl
  | box => exact one rfl rfl
  | mp => exact one rfl rfl
  | own => exact one rfl rfl
  | arr => exact one rfl rfl

/-- All cells hold one-cell values. -/
def oneAll : List AV → Bool
  | [] => true
  | .agg _ :: _ => false
  | a :: r => oneAV a && oneAll r
theorem oneAll_get : ∀ {cs : List AV} (_ : oneAll cs = true) {j : Nat} {a : AV}, cs[j]? = some a → oneAV a = true ∧ ∀ x, a ≠ .agg x
  | [], _, j, a, h => by simp at h
  | b :: r, h, j, a, ha => by
    cases j with
    | zero =>
      simp at ha; subst ha
      cases b <;> simp_all [oneAll]
    | succ j =>
      have : oneAll r = true := by cases b <;> simp_all [oneAll]
      exact oneAll_get this (by simpa using ha)
theorem rep_one {γ : Ids} {H : HF} {a : AV} {u : Value} (r : Rep γ H a u) (h : oneAV a = true) (hn : ∀ x, a ≠ .agg x) : u.oneCell' = true := by
  cases r with
  | d x u hr => exact (repd_one hr).1
  | agg cs => exact absurd rfl (hn cs)
  | tup => simp [oneAV] at h
  | junk => simp [oneAV] at h
  | _ => rfl

section mem
variable {X : Cx} {d : Option Nat} {ty : TypeId} {pos : String} {aft : Array Edge} {g : Option (Nat × Bool)} {t : T} {σ : Sg} {K : T → Sg → Prop}

theorem St.newCells {w0 w : World} {H0 H : HF} {B : Nat → Prop} {N : Nat} {D : List Nat} {γ : Ids} {t : T} {σ : Sg} {a : Act} {i : Nat} {e : TypeId} {cs : List AV} {us : List Value} {dd : Option Nat}
    (s : St w0 H0 B N D γ H t σ a w) (hD : i ∉ D) (hf : isFresh i t σ = true) (hN : dOk dd N = true) (hl : us.length = cs.length) (hr : ∀ (j : Nat) (x : AV) (y : Value), cs[j]? = some x → us[j]? = some y → Rep γ H x y)
    (hc : cs.any (has2 i) = false) :
    St w0 H0 B N D (upd γ i (w.heap.size, 0)) H (putT dd (.box i 0) t) ((i, .cells cs) :: σ) (a.put dd (.pointer (some ⟨w.heap.size, 0, none⟩))) (w.alloc (.cells us.toArray e)) := by
  refine ⟨?_, ?_, (s.tmp.upd hf).put s.size hN ?_, s.mem.new hf ⟨fun o => ?_, e, us, ?_, hl, fun j x y hx hy => rep_upd (hr j x y hx hy) (any_get hc hx)⟩⟩
  · rw [put_defers, s.defers]
    refine List.map_congr_left fun j hj => ?_
    have hne : j ≠ i := fun h => hD (h ▸ hj)
    rw [upd_other γ _ hne]
  · rw [put_size]; exact s.size
  · have := Rep.box (γ := upd γ i (w.heap.size, 0)) (H := H) i 0
    rw [upd_same] at this; exact this
  · rw [upd_same]
    cases hx : H w.heap.size o with
    | none => rfl
    | some v =>
      have := s.mem.hok _ _ _ hx
      simp [World.cell?] at this
  · rw [upd_same]; exact World.alloc_heap_new w _

/-- A variable, with what it begins with. -/
theorem O.box (i : Nat) {e : TypeId} {x : Operand} {av : AV} (hN : dOk d X.N = true) (hx : ge t x = some av) (h1 : oneAV av = true) (hD : i ∉ X.D) (hf : isFresh i t σ = true) (hc : (avCells av).any (has2 i) = false)
    (k : K (putT d (.box i 0) t) ((i, .cells (avCells av)) :: σ)) : OpJ X ⟨d, .box e x, ty, pos, aft, g⟩ t σ K := by
  intro γ H a w s next Q' hk
  obtain ⟨us, hu, hl, hr⟩ := rep_cells (ge_sound s.tmp hx) h1
  have hrun : (execOp a.eval ⟨d, .box e x, ty, pos, aft, g⟩).run X.P w = .ok (.value (.pointer (some ⟨w.heap.size, 0, none⟩))) (w.alloc (.cells us.toArray e)) := by
    simp [execOp, Instr.box, newVar, newRow, hu]
  rw [semAt_of (by simp), hrun, Oper.uponIn_value]
  exact hk _ H _ _ _ _ (s.newCells hD hf hN hl hr hc) k

theorem O.alloc (i : Nat) {e : TypeId} {z : Value} (hN : dOk d X.N = true) (hz : ∀ w, (zeroValue e).run X.P w = .ok z w) (h1 : oneAV (ofConst z) = true) (hD : i ∉ X.D) (hf : isFresh i t σ = true)
    (hc : (avCells (ofConst z)).any (has2 i) = false)
    (k : K (putT d (.box i 0) t) ((i, .cells (avCells (ofConst z))) :: σ)) : OpJ X ⟨d, .alloc e, ty, pos, aft, g⟩ t σ K := by
  intro γ H a w s next Q' hk
  obtain ⟨us, hu, hl, hr⟩ := rep_cells (rep_const γ H z) h1
  have hrun : (execOp a.eval ⟨d, .alloc e, ty, pos, aft, g⟩).run X.P w = .ok (.value (.pointer (some ⟨w.heap.size, 0, none⟩))) (w.alloc (.cells us.toArray e)) := by
    simp [execOp, Instr.alloc, newVar, newRow, hu, hz]
  rw [semAt_of (by simp), hrun, Oper.uponIn_value]
  exact hk _ H _ _ _ _ (s.newCells hD hf hN hl hr hc) k

/-! ### Loads -/
theorem load_cells {P : Program} {w : World} {b : Nat} {vs : Nat → Value} : ∀ (n off i : Nat) (acc : Array Value), (∀ j, j < n → w.cell? ⟨b, off + i + j, none⟩ = some (vs (i + j))) →
    (loadCellsFrom ⟨b, off, none⟩ i n acc).run P w = .ok (acc ++ ((List.range' i n).map vs).toArray) w
  | 0, off, i, acc, h => by simp [loadCellsFrom]
  | n + 1, off, i, acc, h => by
    have ha : (⟨b, off, none⟩ : Addr).add i = ⟨b, off + i, none⟩ := by
      unfold Addr.add; split <;> simp_all
    have h0 := h 0 (by omega)
    simp only [Nat.add_zero] at h0
    have ih := load_cells (P := P) n off (i + 1) (acc.push (vs i)) (fun j hj => by have := h (j + 1) (by omega); rw [show off + (i + 1) + j = off + i + (j + 1) from by omega, show i + 1 + j = i + (j + 1) from by omega]; exact this)
    simp only [loadCellsFrom, ha, Sem.run_bind, run_load, h0, Result.andThen_ok, ih, List.range'_succ, List.map_cons]
    congr 1
    apply Array.toList_inj.1
    simp

theorem loadVar_one {P : Program} {w : World} {ty : TypeId} {ad : Addr} {v : Value} (ha : ∀ w, (isAgg ty).run P w = .ok false w) (h : w.cell? ad = some v) : (loadVar ty ad).run P w = .ok v w := by
  simp [loadVar, ha, h]
theorem loadVar_agg {P : Program} {w : World} {ty : TypeId} {b off n : Nat} {us : List Value} (ha : ∀ w, (isAgg ty).run P w = .ok true w) (hs : ∀ w, (sizeOf ty).run P w = .ok n w) (hl : us.length = n)
    (h : ∀ j, j < n → w.cell? ⟨b, off + j, none⟩ = us[j]?) : (loadVar ty ⟨b, off, none⟩).run P w = .ok (.agg us.toArray) w := by
  have := load_cells (P := P) (w := w) (b := b) (vs := fun j => us.getD j undef) n off 0 #[] (fun j hj => by
    simp only [Nat.add_zero, Nat.zero_add]
    rw [h j hj, List.getD_eq_getElem?_getD, List.getElem?_eq_getElem (by omega)]; rfl)
  have e : ((List.range' 0 n).map fun j => us.getD j undef) = us := by
    apply List.ext_getElem?
    intro j
    simp only [List.getElem?_map, List.getD_eq_getElem?_getD]
    by_cases hj : j < n
    · rw [List.getElem?_range' (by omega)]
      simp [List.getElem?_eq_getElem (show j < us.length by omega)]
    · rw [List.getElem?_eq_none (by simp; omega), List.getElem?_eq_none (by omega)]; rfl
  simp only [loadVar, Sem.run_bind, ha, hs, Result.andThen_ok, if_true, loadCells, this, e, Sem.run_pure]
  simp

theorem cell_of_block {w : World} {b : Nat} {t : TypeId} {us : List Value} {z : Nat × Nat} (h : w.heap[b]? = some (.cells us.toArray t z)) (o : Nat) : w.cell? ⟨b, o, none⟩ = us[o]? := by
  simp [World.cell?, h]

/-- Of a private variable, one cell. -/
theorem O.load1 {x : Operand} {i off : Nat} {cs : List AV} {v : AV} {e : TypeId} (hx : ge t x = some (.box i off)) (hi : look i σ = some (.cells cs)) (hv : cs[off]? = some v)
    (ha : ∀ w, (isAgg e).run X.P w = .ok false w) : QJ X ⟨d, .load e x, ty, pos, aft, g⟩ t σ (v) :=
  QJ.value (by simp) (fun γ H a w so sm => by
    have h1 := so _ (by simp [Op.operands, Call.operands]) _ hx
    generalize hq : a.eval x = q at h1
    cases h1
    obtain ⟨_, tt, us, h2, h3, h4⟩ := sm.ent i _ hi
    have hlt : off < us.length := by rw [h3]; exact (List.getElem?_eq_some_iff.1 hv).1
    refine ⟨us[off], ?_, h4 off v _ hv (by simp [hlt])⟩
    have hc : w.cell? ⟨(γ i).1, off, none⟩ = some us[off] := by rw [cell_of_block h2]; simp [hlt]
    simp [execOp, Instr.loadAt, Instr.sureAddr, hq, loadVar_one ha hc])

/-- Of a private variable, several cells. -/
theorem O.loadN {x : Operand} {i off n : Nat} {cs : List AV} {e : TypeId} (hx : ge t x = some (.box i off)) (hi : look i σ = some (.cells cs)) (ha : ∀ w, (isAgg e).run X.P w = .ok true w)
    (hs : ∀ w, (sizeOf e).run X.P w = .ok n w) (hl : off + n ≤ cs.length) : QJ X ⟨d, .load e x, ty, pos, aft, g⟩ t σ ((.agg ((cs.drop off).take n))) :=
  QJ.value (by simp) (fun γ H a w so sm => by
    have h1 := so _ (by simp [Op.operands, Call.operands]) _ hx
    generalize hq : a.eval x = q at h1
    cases h1
    obtain ⟨_, tt, us, h2, h3, h4⟩ := sm.ent i _ hi
    refine ⟨.agg ((us.drop off).take n).toArray, ?_, .agg _ _ (by simp; omega) fun j a u h5 h6 => ?_⟩
    · have := loadVar_agg (P := X.P) (w := w) (b := (γ i).1) (off := off) (us := (us.drop off).take n) ha hs (by simp; omega) (fun j hj => by
        rw [cell_of_block h2, List.getElem?_take, if_pos hj, List.getElem?_drop])
      simp [execOp, Instr.loadAt, Instr.sureAddr, hq, this]
    · rw [List.getElem?_take] at h5 h6
      split at h5
      · next hj => rw [if_pos hj] at h6; rw [List.getElem?_drop] at h5 h6; exact h4 _ a u h5 h6
      · cases h5)

theorem repd_ptr {H : HF} {cs : List D} {u : Value} (h : RepD H (.ptr cs) u) : ∃ b o, ∃ us : Nat → Value, u = .pointer (some ⟨b, o, none⟩) ∧ (∀ j, j < cs.length → H b (o + j) = some (us j)) ∧
    ∀ (j : Nat) (a : D), cs[j]? = some a → RepD H a (us j) := by
  cases h with
  | ptr _ b o us hc h => exact ⟨b, o, us, rfl, hc, h⟩
theorem rep_d {γ : Ids} {H : HF} {x : D} {u : Value} (h : Rep γ H (.d x) u) : RepD H x u := by cases h; assumption

/-- Data, one cell. -/
theorem O.loadP1 {x : Operand} {cs : List D} {v : D} {e : TypeId} (hx : ge t x = some (.d (.ptr cs))) (hv : cs[0]? = some v)
    (ha : ∀ w, (isAgg e).run X.P w = .ok false w) : QJ X ⟨d, .load e x, ty, pos, aft, g⟩ t σ ((.d v)) :=
  QJ.value (by simp) (fun γ H a w so sm => by
    obtain ⟨b, o, us, h1, h2, h3⟩ := repd_ptr (rep_d (so _ (by simp [Op.operands, Call.operands]) _ hx))
    have hc := sm.hok _ _ _ (h2 0 (List.getElem?_eq_some_iff.1 hv).1)
    simp only [Nat.add_zero] at hc
    refine ⟨us 0, ?_, .d _ _ (h3 0 v hv)⟩
    simp [execOp, Instr.loadAt, Instr.sureAddr, h1, loadVar_one ha hc])

theorem O.loadPN {x : Operand} {cs : List D} {n : Nat} {e : TypeId} (hx : ge t x = some (.d (.ptr cs))) (ha : ∀ w, (isAgg e).run X.P w = .ok true w)
    (hs : ∀ w, (sizeOf e).run X.P w = .ok n w) (hl : n ≤ cs.length) : QJ X ⟨d, .load e x, ty, pos, aft, g⟩ t σ ((.agg ((cs.take n).map .d))) :=
  QJ.value (by simp) (fun γ H a w so sm => by
    obtain ⟨b, o, us, h1, h2, h3⟩ := repd_ptr (rep_d (so _ (by simp [Op.operands, Call.operands]) _ hx))
    refine ⟨.agg ((List.range n).map us).toArray, ?_, .agg _ _ (by simp; omega) fun j a u h5 h6 => ?_⟩
    · have := loadVar_agg (P := X.P) (w := w) (b := b) (off := o) (us := (List.range n).map us) ha hs (by simp) (fun j hj => by
        rw [sm.hok _ _ _ (h2 j (by omega))]; simp [hj])
      simp [execOp, Instr.loadAt, Instr.sureAddr, h1, this]
    · simp only [List.getElem?_map, Option.map_eq_some_iff] at h5 h6
      obtain ⟨c, hc, rfl⟩ := h5
      obtain ⟨m, hm, rfl⟩ := h6
      have hj : j < n := by
        by_cases hj : j < n
        · exact hj
        · simp [List.getElem?_take, hj] at hc
      rw [List.getElem?_take, if_pos hj] at hc
      have : m = j := by simp [hj] at hm; exact hm.symm
      subst this
      exact .d _ _ (h3 _ c hc))

/-! ### Stores -/
theorem setL_reps {R : AV → Value → Prop} : ∀ (as : List AV) (vs : List Value) (cs : List AV) (us : List Value) (p : Nat), us.length = cs.length → vs.length = as.length →
    (∀ (j : Nat) (x : AV) (y : Value), cs[j]? = some x → us[j]? = some y → R x y) → (∀ (j : Nat) (x : AV) (y : Value), as[j]? = some x → vs[j]? = some y → R x y) →
    ∀ (j : Nat) (x : AV) (y : Value), (setL cs p as)[j]? = some x → (setL us p vs)[j]? = some y → R x y
  | [], [], cs, us, p, _, _, h1, _, j, x, y, hx, hy => h1 j x y hx hy
  | a :: as, v :: vs, cs, us, p, hl, hv, h1, h2, j, x, y, hx, hy => by
    refine setL_reps as vs (cs.set p a) (us.set p v) (p + 1) (by simp [hl]) (by simpa using hv) ?_ (fun j x y hx hy => h2 (j + 1) x y (by simpa using hx) (by simpa using hy)) j x y hx hy
    intro j x y hx hy
    rw [List.getElem?_set] at hx hy
    split at hx
    · next e =>
      subst e
      rw [if_pos rfl] at hy
      split at hx
      · next hp =>
        rw [if_pos (by omega)] at hy
        simp only [Option.some.injEq] at hx hy
        subst hx; subst hy
        exact h2 0 a v (by simp) (by simp)
      · cases hx
    · next e => rw [if_neg e] at hy; exact h1 j x y hx hy
  | [], v :: vs, _, _, _, _, hv, _, _, _, _, _, _, _ => by simp at hv
  | a :: as, [], _, _, _, _, hv, _, _, _, _, _, _, _ => by simp at hv

theorem cells_one {γ : Ids} {H : HF} {a : AV} {us : List Value} (hl : us.length = (avCells a).length)
    (hr : ∀ (j : Nat) (x : AV) (y : Value), (avCells a)[j]? = some x → us[j]? = some y → Rep γ H x y) (h : oneAll (avCells a) = true) : ∀ v, v ∈ us → v.oneCell' = true := by
  intro v hv
  obtain ⟨j, hj, e⟩ := List.getElem_of_mem hv
  have hjl : j < (avCells a).length := by omega
  have h1 := hr j (avCells a)[j] v (by simp [hjl]) (by simp [← e, hj])
  obtain ⟨h2, h3⟩ := oneAll_get h (j := j) (a := (avCells a)[j]) (by simp [hjl])
  exact rep_one h1 h2 h3

theorem O.store {x y : Operand} {i off n : Nat} {cs cs' : List AV} {v : AV} {e : TypeId} (hx : ge t x = some (.box i off)) (hy : ge t y = some v) (hi : look i σ = some (.cells cs)) (h1 : oneAV v = true) (h2 : oneAll (avCells v) = true)
    (hs : ∀ w, (sizeOf e).run X.P w = .ok n w) (hn : (avCells v).length = n) (hl : off + n ≤ cs.length) (hc : setL cs off (avCells v) = cs') (k : K t ((i, .cells cs') :: σ)) :
    OpJ X ⟨none, .store e x y, ty, pos, aft, g⟩ t σ K := by
  intro γ H a w s next Q' hk
  have hr := ge_sound s.tmp hx
  generalize hq : a.eval x = q at hr
  cases hr
  obtain ⟨hH, tt, us, h3, h4, h5⟩ := s.mem.ent i _ hi
  have hrv := ge_sound s.tmp hy
  obtain ⟨vs, hu, hvl, hvr⟩ := rep_cells hrv h1
  have hone := cells_one hvl hvr h2
  obtain ⟨w', hw1, hw2, hw3⟩ := store_run (P := X.P) vs w us off 0 h3 (by omega) hone
  have hrun : (execOp a.eval ⟨none, .store e x y, ty, pos, aft, g⟩).run X.P w = .ok .skip w' := by
    have hsz : ¬ (vs.length ≠ n) := by omega
    simp only [execOp, Instr.storeAt, Instr.sureAddr, hq, storeVar, hu, Sem.run_bind, Sem.run_pure, Result.andThen_ok, hs]
    simp only [List.size_toArray, if_neg hsz, hw1, Result.andThen_ok]
  rw [semAt_of (by simp), hrun, Oper.uponIn_skip]
  refine hk γ H t _ _ w' ⟨s.defers, s.size, s.tmp, s.mem.turn (e' := .cells cs') hi trivial hH hw3 (fun _ => trivial) ⟨hH, tt, setL us (off + 0) vs, hw2, ?_, ?_⟩⟩ k
  · rw [← hc, setL_length, setL_length, h4]
  · rw [← hc]
    simp only [Nat.add_zero]
    exact setL_reps (R := Rep γ H) _ _ _ _ _ h4 hvl h5 hvr
end mem

end Go.Sv
