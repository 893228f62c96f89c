/- Operations that only read: scalars, cells, addresses, rows. -/
import Derived.Test.YthfemmcodfajaaaDoorG4
set_option linter.unusedVariables false
set_option linter.unusedSimpArgs false
namespace Go.Gv
open Go.RowKit

section scalars
variable {X : Cx} {d : Option Nat} {ty : TypeId} {pos : String} {aft : Array Edge} {g : Option (Nat × Bool)} {t : T} {σ : Sg} {K : T → Sg → Prop}

theorem O.un {op : UnOp} {ot : TypeId} {x : Operand} {vx v : Value} (hx : ge t x = some (.d (.v vx)))
    (hv : ∀ w, (Op.unary op vx).run X.P w = .ok v w) (h1c : v.oneCell' = true) : QJ X ⟨d, .unOp op ot x, ty, pos, aft, g⟩ t σ ((.d (.v v))) :=
  QJ.value (by simp) (fun γ H a w so sm => by
    have h1 := rep_v (so _ (by simp [Op.operands, Call.operands]) _ hx)
    refine ⟨v, ?_, .d _ _ (.v v h1c)⟩
    simp only [execOp, h1, Sem.run_bind, hv w]; rfl)

theorem O.conv {src dst : TypeId} {x : Operand} {vx v : Value} (hx : ge t x = some (.d (.v vx)))
    (hv : ∀ w, (convert src dst vx).run X.P w = .ok v w) (h1c : v.oneCell' = true) : QJ X ⟨d, .convert src dst x, ty, pos, aft, g⟩ t σ ((.d (.v v))) :=
  QJ.value (by simp) (fun γ H a w so sm => by
    have h1 := rep_v (so _ (by simp [Op.operands, Call.operands]) _ hx)
    refine ⟨v, ?_, .d _ _ (.v v h1c)⟩
    simp only [execOp, h1, Sem.run_bind, hv w]; rfl)

/-- A builtin on scalars. -/
theorem O.bi1 {b : Builtin} {x : Operand} {tys : Array TypeId} {vx v : Value} (hx : ge t x = some (.d (.v vx)))
    (hv : ∀ cs w, (builtin b tys ty cs #[vx]).run X.P w = .ok (.value v) w) (h1c : v.oneCell' = true) : QJ X ⟨d, .call { callee := .builtin b, args := #[x], argTypes := tys }, ty, pos, aft, g⟩ t σ ((.d (.v v))) :=
  QJ.value (by simp) (fun γ H a w so sm => by
    have h1 := rep_v (so _ (by simp [Op.operands, Call.operands]) _ hx)
    refine ⟨v, ?_, .d _ _ (.v v h1c)⟩
    simp [execOp, resolve, invoke, h1, hv])

theorem O.bi2 {b : Builtin} {x y : Operand} {tys : Array TypeId} {vx vy v : Value} (hx : ge t x = some (.d (.v vx))) (hy : ge t y = some (.d (.v vy)))
    (hv : ∀ cs w, (builtin b tys ty cs #[vx, vy]).run X.P w = .ok (.value v) w) (h1c : v.oneCell' = true) : QJ X ⟨d, .call { callee := .builtin b, args := #[x, y], argTypes := tys }, ty, pos, aft, g⟩ t σ ((.d (.v v))) :=
  QJ.value (by simp) (fun γ H a w so sm => by
    have h1 := rep_v (so _ (by simp [Op.operands, Call.operands]) _ hx)
    have h2 := rep_v (so _ (by simp [Op.operands, Call.operands]) _ hy)
    refine ⟨v, ?_, .d _ _ (.v v h1c)⟩
    simp [execOp, resolve, invoke, h1, h2, hv])

/-- The length of what stands for a slice. -/
def lenAV : AV → Option Nat
  | .d (.sl _ xs) => some xs.length
  | .d (.v (.slice _ n _)) => some n
  | .full _ xs => some xs.length
  | .arr _ _ n => some n
  | _ => none
theorem rep_len {γ : Ids} {H : HF} {a : AV} {u : Value} {n : Nat} (r : Rep γ H a u) (h : lenAV a = some n) : ∃ A c, u = .slice A n c := by
  cases r with
  | d x u hr =>
    cases hr with
    | sl k xs A c b o us => simp only [lenAV, Option.some.injEq] at h; subst h; exact ⟨A, c, rfl⟩
    | v _ hc => cases u <;> simp [lenAV] at h; subst h; exact ⟨_, _, rfl⟩
    | _ => simp [lenAV] at h
  | full k xs A hr => simp only [lenAV, Option.some.injEq] at h; subst h; exact ⟨A, _, rfl⟩
  | arr i k n A _ _ => simp only [lenAV, Option.some.injEq] at h; subst h; exact ⟨A, _, rfl⟩
  | _ => simp [lenAV] at h

theorem O.len {x : Operand} {tt e : TypeId} {av : AV} {n : Nat} (hx : ge t x = some av) (hl : lenAV av = some n) (hu : X.P.underlying tt = some (.slice e))
    : QJ X ⟨d, .call { callee := .builtin .len, args := #[x], argTypes := #[tt] }, ty, pos, aft, g⟩ t σ ((.d (.v (.int .i64 n)))) :=
  QJ.value (by simp) (fun γ H a w so sm => by
    obtain ⟨A, c, h1⟩ := rep_len (so _ (by simp [Op.operands, Call.operands]) _ hx) hl
    refine ⟨.int .i64 n, ?_, .d _ _ (.v _ rfl)⟩
    simp [execOp, resolve, invoke, h1, builtin, Builtin.len_, underlying, hu, goInt])
end scalars

/-! ### Cells -/
def setL {α : Type} : List α → Nat → List α → List α
  | us, _, [] => us
  | us, p, v :: vs => setL (us.set p v) (p + 1) vs
theorem setL_length {α : Type} : ∀ (vs us : List α) (p : Nat), (setL us p vs).length = us.length
  | [], _, _ => rfl
  | v :: vs, us, p => by simp only [setL]; rw [setL_length vs]; simp

structure SameBut (b : Nat) (w w' : World) : Prop where
  os : w'.os = w.os
  tape : w'.tape = w.tape
  output : w'.output = w.output
  size : w'.heap.size = w.heap.size
  block : ∀ k, k ≠ b → w'.heap[k]? = w.heap[k]?
theorem SameBut.refl (b : Nat) (w : World) : SameBut b w w := ⟨rfl, rfl, rfl, rfl, fun _ _ => rfl⟩
theorem SameBut.trans {b : Nat} {u v w : World} (h : SameBut b u v) (k : SameBut b v w) : SameBut b u w :=
  ⟨k.os.trans h.os, k.tape.trans h.tape, k.output.trans h.output, k.size.trans h.size, fun i hi => (k.block i hi).trans (h.block i hi)⟩

theorem store_one {P : Program} {w : World} {b o : Nat} {t : TypeId} {us : List Value} {v : Value} (h : w.heap[b]? = some (.cells us.toArray t (0, 0))) (ho : o < us.length) (hv : v.oneCell' = true) :
    (store ⟨b, o, none⟩ v).run P w = .ok () (w.setCell ⟨b, o, none⟩ v) ∧ (w.setCell ⟨b, o, none⟩ v).heap[b]? = some (.cells (us.set o v).toArray t (0, 0)) ∧ SameBut b w (w.setCell ⟨b, o, none⟩ v) := by
  have hc : w.cell? ⟨b, o, none⟩ = some us[o] := by simp [World.cell?, h, ho]
  have hf : w.frozen? ⟨b, o, none⟩ = false := by simp [World.frozen?, h]
  refine ⟨?_, ?_, rfl, rfl, rfl, by simp [World.setCell], fun k hk => ?_⟩
  · rw [run_store P w _ v .plain hv]
    simp [hc, hf]
  · simp [World.setCell, Array.getElem?_modify, h]
  · simp only [World.setCell, Array.getElem?_modify]
    rw [if_neg (fun e => hk e.symm)]

theorem store_run {P : Program} {b : Nat} {t : TypeId} : ∀ (vs : List Value) (w : World) (us : List Value) (off i : Nat), w.heap[b]? = some (.cells us.toArray t (0, 0)) →
    off + i + vs.length ≤ us.length → (∀ v, v ∈ vs → v.oneCell' = true) →
    ∃ w', (storeCells ⟨b, off, none⟩ vs i).run P w = .ok () w' ∧ w'.heap[b]? = some (.cells (setL us (off + i) vs).toArray t (0, 0)) ∧ SameBut b w w'
  | [], w, us, off, i, h, _, _ => ⟨w, rfl, h, SameBut.refl _ _⟩
  | v :: vs, w, us, off, i, h, hl, hv => by
    simp only [List.length_cons] at hl
    obtain ⟨h1, h2, h3⟩ := store_one (P := P) h (o := off + i) (by omega) (hv v (by simp))
    obtain ⟨w', h4, h5, h6⟩ := store_run (P := P) vs _ _ off (i + 1) h2 (by simp; omega) (fun v hm => hv v (by simp [hm]))
    refine ⟨w', ?_, h5, h3.trans h6⟩
    have ha : (⟨b, off, none⟩ : Addr).add i = ⟨b, off + i, none⟩ := by
      unfold Addr.add; split <;> simp_all
    simp only [storeCells, ha, Sem.run_bind, h1, Result.andThen_ok, h4]

/-- The cells of a value. -/
def avCells : AV → List AV
  | .agg cs => cs
  | a => [a]
def oneAV : AV → Bool
  | .agg _ => true
  | .tup _ => false
  | .junk => false
  | _ => true

theorem repd_one {H : HF} {x : D} {u : Value} (r : RepD H x u) : u.oneCell' = true ∧ u.cells = #[u] := by
  cases r with
  | v _ h => cases u <;> simp_all [Value.oneCell', Value.cells]
  | _ => exact ⟨rfl, rfl⟩

theorem rep_cells {γ : Ids} {H : HF} {a : AV} {u : Value} (r : Rep γ H a u) (h : oneAV a = true) :
    ∃ us : List Value, u.cells = us.toArray ∧ us.length = (avCells a).length ∧ ∀ (j : Nat) (x : AV) (y : Value), (avCells a)[j]? = some x → us[j]? = some y → Rep γ H x y := by
  have one : u.cells = #[u] → avCells a = [a] → ∃ us : List Value, u.cells = us.toArray ∧ us.length = (avCells a).length ∧ ∀ (j : Nat) (x : AV) (y : Value), (avCells a)[j]? = some x → us[j]? = some y → Rep γ H x y := by
    intro h1 h2
    refine ⟨[u], by simpa using h1, by simp [h2], fun j x y hx hy => ?_⟩
    rw [h2] at hx
    cases j with
    | zero => simp at hx hy; subst hx; subst hy; exact r
    | succ j => simp at hx
  cases r with
  | d x u hr => exact one (repd_one hr).2 rfl
  | agg cs us hl hr => exact ⟨us, by simp [Value.cells], hl, hr⟩
  | tup => simp [oneAV] at h
  | junk => simp [oneAV] at h
  | fnp f cs us hl hr => exact one rfl rfl
  | box => exact one rfl rfl
  | mp => exact one rfl rfl
  | full => exact one rfl rfl
  | boxX => exact one rfl rfl
  | arr => exact one rfl rfl

/-- All cells hold one-cell values. -/
def oneAll : List AV → Bool
  | [] => true
  | .agg _ :: _ => false
  | a :: r => oneAV a && oneAll r
theorem oneAll_get : ∀ {cs : List AV} (_ : oneAll cs = true) {j : Nat} {a : AV}, cs[j]? = some a → oneAV a = true ∧ ∀ x, a ≠ .agg x
  | [], _, j, a, h => by simp at h
  | b :: r, h, j, a, ha => by
    cases j with
    | zero =>
      simp at ha; subst ha
      cases b <;> simp_all [oneAll]
    | succ j =>
      have : oneAll r = true := by cases b <;> simp_all [oneAll]
      exact oneAll_get this (by simpa using ha)
theorem rep_one {γ : Ids} {H : HF} {a : AV} {u : Value} (r : Rep γ H a u) (h : oneAV a = true) (hn : ∀ x, a ≠ .agg x) : u.oneCell' = true := by
  cases r with
  | d x u hr => exact (repd_one hr).1
  | agg cs => exact absurd rfl (hn cs)
  | tup => simp [oneAV] at h
  | junk => simp [oneAV] at h
  | _ => rfl


/-- Where a pointer into a private block leads. -/
def boxOf : AV → Option (Nat × Nat)
  | .box i off => some (i, off)
  | .boxX i off => some (i, off)
  | _ => none
theorem rep_box {γ : Ids} {H : HF} {av : AV} {u : Value} {i off : Nat} (h : boxOf av = some (i, off)) (r : Rep γ H av u) : u = .pointer (some ⟨(γ i).b, off, none⟩) := by
  cases av <;> simp [boxOf] at h <;> (obtain ⟨rfl, rfl⟩ := h; cases r; rfl)
section mem
variable {X : Cx} {d : Option Nat} {ty : TypeId} {pos : String} {aft : Array Edge} {g : Option (Nat × Bool)} {t : T} {σ : Sg} {K : T → Sg → Prop}
/-! ### Loads -/
theorem load_cells {P : Program} {w : World} {b : Nat} {vs : Nat → Value} : ∀ (n off i : Nat) (acc : Array Value), (∀ j, j < n → w.cell? ⟨b, off + i + j, none⟩ = some (vs (i + j))) →
    (loadCellsFrom ⟨b, off, none⟩ i n acc).run P w = .ok (acc ++ ((List.range' i n).map vs).toArray) w
  | 0, off, i, acc, h => by simp [loadCellsFrom]
  | n + 1, off, i, acc, h => by
    have ha : (⟨b, off, none⟩ : Addr).add i = ⟨b, off + i, none⟩ := by
      unfold Addr.add; split <;> simp_all
    have h0 := h 0 (by omega)
    simp only [Nat.add_zero] at h0
    have ih := load_cells (P := P) n off (i + 1) (acc.push (vs i)) (fun j hj => by have := h (j + 1) (by omega); rw [show off + (i + 1) + j = off + i + (j + 1) from by omega, show i + 1 + j = i + (j + 1) from by omega]; exact this)
    simp only [loadCellsFrom, ha, Sem.run_bind, run_load, h0, Result.andThen_ok, ih, List.range'_succ, List.map_cons]
    congr 1
    apply Array.toList_inj.1
    simp

theorem loadVar_one {P : Program} {w : World} {ty : TypeId} {ad : Addr} {v : Value} (ha : ∀ w, (isAgg ty).run P w = .ok false w) (h : w.cell? ad = some v) : (loadVar ty ad).run P w = .ok v w := by
  simp [loadVar, ha, h]
theorem loadVar_agg {P : Program} {w : World} {ty : TypeId} {b off n : Nat} {us : List Value} (ha : ∀ w, (isAgg ty).run P w = .ok true w) (hs : ∀ w, (sizeOf ty).run P w = .ok n w) (hl : us.length = n)
    (h : ∀ j, j < n → w.cell? ⟨b, off + j, none⟩ = us[j]?) : (loadVar ty ⟨b, off, none⟩).run P w = .ok (.agg us.toArray) w := by
  have := load_cells (P := P) (w := w) (b := b) (vs := fun j => us.getD j undef) n off 0 #[] (fun j hj => by
    simp only [Nat.add_zero, Nat.zero_add]
    rw [h j hj, List.getD_eq_getElem?_getD, List.getElem?_eq_getElem (by omega)]; rfl)
  have e : ((List.range' 0 n).map fun j => us.getD j undef) = us := by
    apply List.ext_getElem?
    intro j
    simp only [List.getElem?_map, List.getD_eq_getElem?_getD]
    by_cases hj : j < n
    · rw [List.getElem?_range' (by omega)]
      simp [List.getElem?_eq_getElem (show j < us.length by omega)]
    · rw [List.getElem?_eq_none (by simp; omega), List.getElem?_eq_none (by omega)]; rfl
  simp only [loadVar, Sem.run_bind, ha, hs, Result.andThen_ok, if_true, loadCells, this, e, Sem.run_pure]
  simp

theorem cell_of_block {w : World} {b : Nat} {t : TypeId} {us : List Value} {z : Nat × Nat} (h : w.heap[b]? = some (.cells us.toArray t z)) (o : Nat) : w.cell? ⟨b, o, none⟩ = us[o]? := by
  simp [World.cell?, h]

/-- Of a private variable, one cell. -/
theorem O.load1 {x : Operand} {i off : Nat} {cs : List AV} {v : AV} {e : TypeId} {av : AV} (hx : ge t x = some av) (hbx : boxOf av = some (i, off)) (hi : look i σ = some (.cells cs)) (hv : cs[off]? = some v)
    (ha : ∀ w, (isAgg e).run X.P w = .ok false w) : QJ X ⟨d, .load e x, ty, pos, aft, g⟩ t σ (v) :=
  QJ.value (by simp) (fun γ H a w so sm => by
    have h1 := so _ (by simp [Op.operands, Call.operands]) _ hx
    have hq := rep_box hbx h1
    obtain ⟨tt, us, h2, h3, h4⟩ := sm.ent i _ hi
    have hlt : off < us.length := by rw [h3]; exact (List.getElem?_eq_some_iff.1 hv).1
    refine ⟨us[off], ?_, h4 off v _ hv (by simp [hlt])⟩
    have hc : w.cell? ⟨(γ i).b, off, none⟩ = some us[off] := by rw [cell_of_block h2]; simp [hlt]
    simp [execOp, Instr.loadAt, Instr.sureAddr, hq, loadVar_one ha hc])

/-- Of a private variable, several cells. -/
theorem O.loadN {x : Operand} {i off n : Nat} {cs : List AV} {e : TypeId} {av : AV} (hx : ge t x = some av) (hbx : boxOf av = some (i, off)) (hi : look i σ = some (.cells cs)) (ha : ∀ w, (isAgg e).run X.P w = .ok true w)
    (hs : ∀ w, (sizeOf e).run X.P w = .ok n w) (hl : off + n ≤ cs.length) : QJ X ⟨d, .load e x, ty, pos, aft, g⟩ t σ ((.agg ((cs.drop off).take n))) :=
  QJ.value (by simp) (fun γ H a w so sm => by
    have h1 := so _ (by simp [Op.operands, Call.operands]) _ hx
    have hq := rep_box hbx h1
    obtain ⟨tt, us, h2, h3, h4⟩ := sm.ent i _ hi
    refine ⟨.agg ((us.drop off).take n).toArray, ?_, .agg _ _ (by simp; omega) fun j a u h5 h6 => ?_⟩
    · have := loadVar_agg (P := X.P) (w := w) (b := (γ i).b) (off := off) (us := (us.drop off).take n) ha hs (by simp; omega) (fun j hj => by
        rw [cell_of_block h2, List.getElem?_take, if_pos hj, List.getElem?_drop])
      simp [execOp, Instr.loadAt, Instr.sureAddr, hq, this]
    · rw [List.getElem?_take] at h5 h6
      split at h5
      · next hj => rw [if_pos hj] at h6; rw [List.getElem?_drop] at h5 h6; exact h4 _ a u h5 h6
      · cases h5)

theorem repd_ptr {H : HF} {cs : List D} {u : Value} (h : RepD H (.ptr cs) u) : ∃ b o, ∃ us : Nat → Value, u = .pointer (some ⟨b, o, none⟩) ∧ (∀ j, j < cs.length → H.c b (o + j) = some (us j)) ∧
    ∀ (j : Nat) (a : D), cs[j]? = some a → RepD H a (us j) := by
  cases h with
  | ptr _ b o us hc h => exact ⟨b, o, us, rfl, hc, h⟩

/-- Data, one cell. -/
theorem O.loadP1 {x : Operand} {cs : List D} {v : D} {e : TypeId} (hx : ge t x = some (.d (.ptr cs))) (hv : cs[0]? = some v)
    (ha : ∀ w, (isAgg e).run X.P w = .ok false w) : QJ X ⟨d, .load e x, ty, pos, aft, g⟩ t σ ((.d v)) :=
  QJ.value (by simp) (fun γ H a w so sm => by
    obtain ⟨b, o, us, h1, h2, h3⟩ := repd_ptr (rep_d (so _ (by simp [Op.operands, Call.operands]) _ hx))
    have hc := sm.hok.c _ _ _ (h2 0 (List.getElem?_eq_some_iff.1 hv).1)
    simp only [Nat.add_zero] at hc
    refine ⟨us 0, ?_, .d _ _ (h3 0 v hv)⟩
    simp [execOp, Instr.loadAt, Instr.sureAddr, h1, loadVar_one ha hc])

theorem O.loadPN {x : Operand} {cs : List D} {n : Nat} {e : TypeId} (hx : ge t x = some (.d (.ptr cs))) (ha : ∀ w, (isAgg e).run X.P w = .ok true w)
    (hs : ∀ w, (sizeOf e).run X.P w = .ok n w) (hl : n ≤ cs.length) : QJ X ⟨d, .load e x, ty, pos, aft, g⟩ t σ ((.agg ((cs.take n).map .d))) :=
  QJ.value (by simp) (fun γ H a w so sm => by
    obtain ⟨b, o, us, h1, h2, h3⟩ := repd_ptr (rep_d (so _ (by simp [Op.operands, Call.operands]) _ hx))
    refine ⟨.agg ((List.range n).map us).toArray, ?_, .agg _ _ (by simp; omega) fun j a u h5 h6 => ?_⟩
    · have := loadVar_agg (P := X.P) (w := w) (b := b) (off := o) (us := (List.range n).map us) ha hs (by simp) (fun j hj => by
        rw [sm.hok.c _ _ _ (h2 j (by omega))]; simp [hj])
      simp [execOp, Instr.loadAt, Instr.sureAddr, h1, this]
    · simp only [List.getElem?_map, Option.map_eq_some_iff] at h5 h6
      obtain ⟨c, hc, rfl⟩ := h5
      obtain ⟨m, hm, rfl⟩ := h6
      have hj : j < n := by
        by_cases hj : j < n
        · exact hj
        · simp [List.getElem?_take, hj] at hc
      rw [List.getElem?_take, if_pos hj] at hc
      have : m = j := by simp [hj] at hm; exact hm.symm
      subst this
      exact .d _ _ (h3 _ c hc))

end mem
/-! ### Stores -/
theorem setL_reps {R : AV → Value → Prop} : ∀ (as : List AV) (vs : List Value) (cs : List AV) (us : List Value) (p : Nat), us.length = cs.length → vs.length = as.length →
    (∀ (j : Nat) (x : AV) (y : Value), cs[j]? = some x → us[j]? = some y → R x y) → (∀ (j : Nat) (x : AV) (y : Value), as[j]? = some x → vs[j]? = some y → R x y) →
    ∀ (j : Nat) (x : AV) (y : Value), (setL cs p as)[j]? = some x → (setL us p vs)[j]? = some y → R x y
  | [], [], cs, us, p, _, _, h1, _, j, x, y, hx, hy => h1 j x y hx hy
  | a :: as, v :: vs, cs, us, p, hl, hv, h1, h2, j, x, y, hx, hy => by
    refine setL_reps as vs (cs.set p a) (us.set p v) (p + 1) (by simp [hl]) (by simpa using hv) ?_ (fun j x y hx hy => h2 (j + 1) x y (by simpa using hx) (by simpa using hy)) j x y hx hy
    intro j x y hx hy
    rw [List.getElem?_set] at hx hy
    split at hx
    · next e =>
      subst e
      rw [if_pos rfl] at hy
      split at hx
      · next hp =>
        rw [if_pos (by omega)] at hy
        simp only [Option.some.injEq] at hx hy
        subst hx; subst hy
        exact h2 0 a v (by simp) (by simp)
      · cases hx
    · next e => rw [if_neg e] at hy; exact h1 j x y hx hy
  | [], v :: vs, _, _, _, _, hv, _, _, _, _, _, _, _ => by simp at hv
  | a :: as, [], _, _, _, _, hv, _, _, _, _, _, _, _ => by simp at hv

theorem cells_one {γ : Ids} {H : HF} {a : AV} {us : List Value} (hl : us.length = (avCells a).length)
    (hr : ∀ (j : Nat) (x : AV) (y : Value), (avCells a)[j]? = some x → us[j]? = some y → Rep γ H x y) (h : oneAll (avCells a) = true) : ∀ v, v ∈ us → v.oneCell' = true := by
  intro v hv
  obtain ⟨j, hj, e⟩ := List.getElem_of_mem hv
  have hjl : j < (avCells a).length := by omega
  have h1 := hr j (avCells a)[j] v (by simp [hjl]) (by simp [← e, hj])
  obtain ⟨h2, h3⟩ := oneAll_get h (j := j) (a := (avCells a)[j]) (by simp [hjl])
  exact rep_one h1 h2 h3

theorem add_lit (b o n : Nat) : (⟨b, o, none⟩ : Addr).add n = ⟨b, o + n, none⟩ := by
  unfold Addr.add; split <;> simp_all


section addr
variable {X : Cx} {d : Option Nat} {ty : TypeId} {pos : String} {aft : Array Edge} {g : Option (Nat × Bool)} {t : T} {σ : Sg} {K : T → Sg → Prop}
theorem field_run {P : Program} {s : TypeId} {fs : Array Field} {fld : Nat} {f : Field} {n : Nat} {w : World} {b o : Nat} (hu : P.underlying s = some (.struct fs)) (hf : fs[fld]? = some f)
    (hz : ∀ w, (sizeOf f.type).run P w = .ok n w) (hn : Nat.beq n 0 = false) : (Instr.fieldAt s (.pointer (some ⟨b, o, none⟩)) fld).run P w = .ok (.pointer (some ⟨b, o + f.offset, none⟩)) w := by
  have hn' : n ≠ 0 := fun e => by subst e; simp at hn
  simp [Instr.fieldAt, underlying, hu, hf, Instr.sureAddr, fieldPlace, hz, hn', add_lit]

def shiftBox : AV → Nat → AV
  | .box i off, n => .box i (off + n)
  | .boxX i off, n => .boxX i (off + n)
  | a, _ => a
theorem rep_shift {γ : Ids} {H : HF} {av : AV} {i off n : Nat} (h : boxOf av = some (i, off)) : Rep γ H (shiftBox av n) (.pointer (some ⟨(γ i).b, off + n, none⟩)) := by
  cases av <;> simp [boxOf] at h <;> obtain ⟨rfl, rfl⟩ := h
  · exact .box _ _
  · exact .boxX _ _
theorem O.fieldB {s : TypeId} {x : Operand} {fld i off : Nat} {fs : Array Field} {f : Field} {n : Nat} {av : AV} (hx : ge t x = some av) (hbx : boxOf av = some (i, off)) (hu : X.P.underlying s = some (.struct fs)) (hf : fs[fld]? = some f)
    (hz : ∀ w, (sizeOf f.type).run X.P w = .ok n w) (hn : Nat.beq n 0 = false) : QJ X ⟨d, .fieldAddr s x fld, ty, pos, aft, g⟩ t σ (shiftBox av f.offset) :=
  QJ.value (by simp) (fun γ H a w so sm => by
    have h1 := so _ (by simp [Op.operands, Call.operands]) _ hx
    have hq := rep_box hbx h1
    exact ⟨_, by simp [execOp, hq, field_run hu hf hz hn], rep_shift hbx⟩)

theorem O.fieldP {s : TypeId} {x : Operand} {fld : Nat} {cs : List D} {fs : Array Field} {f : Field} {n : Nat} (hx : ge t x = some (.d (.ptr cs))) (hu : X.P.underlying s = some (.struct fs)) (hf : fs[fld]? = some f)
    (hz : ∀ w, (sizeOf f.type).run X.P w = .ok n w) (hn : Nat.beq n 0 = false) : QJ X ⟨d, .fieldAddr s x fld, ty, pos, aft, g⟩ t σ ((.d (.ptr (cs.drop f.offset)))) :=
  QJ.value (by simp) (fun γ H a w so sm => by
    obtain ⟨b, o, us, h1, h2, h3⟩ := repd_ptr (rep_d (so _ (by simp [Op.operands, Call.operands]) _ hx))
    refine ⟨.pointer (some ⟨b, o + f.offset, none⟩), by simp [execOp, h1, field_run hu hf hz hn], .d _ _ (.ptr _ _ _ (fun j => us (f.offset + j)) (fun j hj => ?_) fun j a hj => ?_)⟩
    · simp only [List.length_drop] at hj
      rw [Nat.add_assoc]; exact h2 _ (by omega)
    · rw [List.getElem?_drop] at hj; exact h3 _ a hj)

/-- What is read by an index. -/
def elems : AV → Option (Nat × List (List D))
  | .d (.sl k xs) => some (k, xs)
  | .full k xs => some (k, xs)
  | _ => none
theorem rep_elems {γ : Ids} {H : HF} {a : AV} {u : Value} {k : Nat} {xs : List (List D)} (r : Rep γ H a u) (h : elems a = some (k, xs)) : RepD H (.sl k xs) u := by
  cases r with
  | d x u hr => cases x <;> simp [elems] at h; obtain ⟨rfl, rfl⟩ := h; exact hr
  | full k xs A hr => simp only [elems, Option.some.injEq, Prod.mk.injEq] at h; obtain ⟨rfl, rfl⟩ := h; exact hr
  | _ => simp [elems] at h

theorem O.idx {s e : TypeId} {x y : Operand} {av : AV} {k : Nat} {xs : List (List D)} {kk : IntKind} {m : Int} {cs : List D} (hx : ge t x = some av) (hy : ge t y = some (.d (.v (.int kk m)))) (hel : elems av = some (k, xs))
    (hu : X.P.underlying s = some (.slice e)) (hz : ∀ w, (sizeOf e).run X.P w = .ok k w) (hm : 0 ≤ m) (hc : xs[m.toNat]? = some cs) : QJ X ⟨d, .indexAddr s x y, ty, pos, aft, g⟩ t σ ((.d (.ptr cs))) :=
  QJ.value (by simp) (fun γ H a w so sm => by
    have hr := rep_elems (so _ (by simp [Op.operands, Call.operands]) _ hx) hel
    have h2 := rep_v (so _ (by simp [Op.operands, Call.operands]) _ hy)
    generalize hq : a.eval x = q at hr
    cases hr with
    | sl _ _ A c b o us hk hn hcap hA hH hrep =>
      have hlt : m.toNat < xs.length := (List.getElem?_eq_some_iff.1 hc).1
      have hA' := hA (by omega)
      subst hA'
      have hl : cs.length = k := hk cs (mem_of_get hc)
      refine ⟨.pointer (some ⟨b, o + m.toNat * k, none⟩), ?_, .d _ _ (.ptr _ _ _ (us m.toNat) (fun j hj => ?_) fun j a hj => hrep _ _ cs a hc hj)⟩
      · have hb : 0 ≤ m ∧ m < (xs.length : Int) := ⟨hm, by omega⟩
        simp [execOp, hq, h2, Instr.indexAt, asIntOf, underlying, hu, hz, hb, add_lit]
      · rw [hl] at hj
        have := hH m.toNat j hlt hj
        exact this)

theorem O.idxA {s e : TypeId} {x y : Operand} {i k n : Nat} {kk : IntKind} {m : Int} (hx : ge t x = some (.arr i k n)) (hy : ge t y = some (.d (.v (.int kk m))))
    (hu : X.P.underlying s = some (.slice e)) (hz : ∀ w, (sizeOf e).run X.P w = .ok k w) (hm : 0 ≤ m) (hc : m.toNat < n) : QJ X ⟨d, .indexAddr s x y, ty, pos, aft, g⟩ t σ ((.boxX i (m.toNat * k))) :=
  QJ.value (by simp) (fun γ H a w so sm => by
    have hr := so _ (by simp [Op.operands, Call.operands]) _ hx
    have h2 := rep_v (so _ (by simp [Op.operands, Call.operands]) _ hy)
    generalize hq : a.eval x = q at hr
    cases hr with
    | arr _ _ _ A hn hA =>
      have hA' := hA (by omega)
      subst hA'
      refine ⟨.pointer (some ⟨(γ i).b, m.toNat * k, none⟩), ?_, .boxX i _⟩
      have hb : 0 ≤ m ∧ m < (n : Int) := ⟨hm, by omega⟩
      simp [execOp, hq, h2, Instr.indexAt, asIntOf, underlying, hu, hz, hb, add_lit])

/-- An array variable's element. -/
theorem O.idxB {s e : TypeId} {x y : Operand} {i off k n : Nat} {kk : IntKind} {m : Int} {av : AV} (hx : ge t x = some av) (hbx : boxOf av = some (i, off)) (hy : ge t y = some (.d (.v (.int kk m))))
    (hu : X.P.underlying s = some (.array n e)) (hz : ∀ w, (sizeOf e).run X.P w = .ok k w) (hm : 0 ≤ m) (hc : m < (n : Int)) : QJ X ⟨d, .indexAddr s x y, ty, pos, aft, g⟩ t σ ((.boxX i (off + m.toNat * k))) :=
  QJ.value (by simp) (fun γ H a w so sm => by
    have hr := so _ (by simp [Op.operands, Call.operands]) _ hx
    have h2 := rep_v (so _ (by simp [Op.operands, Call.operands]) _ hy)
    have hq := rep_box hbx hr
    refine ⟨.pointer (some ⟨(γ i).b, off + m.toNat * k, none⟩), ?_, .boxX i _⟩
    have hb : 0 ≤ m ∧ m < (n : Int) := ⟨hm, hc⟩
    simp [execOp, hq, h2, Instr.indexAt, Instr.sureAddr, asIntOf, underlying, hu, hz, hb, add_lit])

theorem O.nilP {x : Operand} {cs : List D} (hx : ge t x = some (.d (.ptr cs))) : QJ X ⟨d, .nilCheck x, ty, pos, aft, g⟩ t σ ((.d (.ptr cs))) :=
  QJ.value (by simp) (fun γ H a w so sm => by
    have hr := so _ (by simp [Op.operands, Call.operands]) _ hx
    obtain ⟨b, o, us, h1, _⟩ := repd_ptr (rep_d hr)
    exact ⟨a.eval x, by simp [execOp, h1], hr⟩)
theorem O.nilB {x : Operand} {i off : Nat} {av : AV} (hx : ge t x = some av) (hbx : boxOf av = some (i, off)) : QJ X ⟨d, .nilCheck x, ty, pos, aft, g⟩ t σ av :=
  QJ.value (by simp) (fun γ H a w so sm => by
    have hr := so _ (by simp [Op.operands, Call.operands]) _ hx
    have hq := rep_box hbx hr
    exact ⟨a.eval x, by simp [execOp, hq], hr⟩)

theorem O.extract {x : Operand} {ix : Nat} {vs : List AV} {v : AV} (hx : ge t x = some (.tup vs)) (hv : vs[ix]? = some v) : QJ X ⟨d, .extract x ix, ty, pos, aft, g⟩ t σ (v) :=
  QJ.value (by simp) (fun γ H a w so sm => by
    have hr := so _ (by simp [Op.operands, Call.operands]) _ hx
    generalize hq : a.eval x = q at hr
    cases hr with
    | tup _ us hl hr =>
      have hlt : ix < us.length := by rw [hl]; exact (List.getElem?_eq_some_iff.1 hv).1
      refine ⟨us[ix], ?_, hr ix v _ hv (by simp [hlt])⟩
      simp [execOp, hq, Instr.extract, hlt])

/-! ### Private rows -/
theorem O.loadA {x : Operand} {i off : Nat} {k : Nat} {xs : List (List D)} {cs : List D} {v : D} {e : TypeId} {j l : Nat} {av : AV} (hx : ge t x = some av) (hbx : boxOf av = some (i, off)) (hi : look i σ = some (.arr k xs)) (hj : off = j * k + l) (hv : xs[j]? = some cs) (hl : cs[l]? = some v)
    (ha : ∀ w, (isAgg e).run X.P w = .ok false w) : QJ X ⟨d, .load e x, ty, pos, aft, g⟩ t σ ((.d v)) :=
  QJ.value (by simp) (fun γ H a w so sm => by
    have h1 := so _ (by simp [Op.operands, Call.operands]) _ hx
    have hq := rep_box hbx h1
    obtain ⟨hle, hk, h2⟩ := sm.ent i _ hi
    have hjl : j < xs.length := (List.getElem?_eq_some_iff.1 hv).1
    have hll : l < k := by rw [← hk cs (mem_of_get hv)]; exact (List.getElem?_eq_some_iff.1 hl).1
    obtain ⟨tt, us, h3, h4, h5⟩ := h2 (by omega)
    have hoff : off < us.length := by
      rw [h4, hj]
      calc j * k + l < j * k + k := by omega
        _ = (j + 1) * k := by rw [Nat.add_mul]; omega
        _ ≤ (γ i).n * k := Nat.mul_le_mul_right _ (by omega)
    refine ⟨us[off], ?_, .d _ _ (h5 j l cs v _ hv hl (by rw [← hj]; simp [hoff]))⟩
    have hc : w.cell? ⟨(γ i).b, off, none⟩ = some us[off] := by rw [cell_of_block h3]; simp [hoff]
    simp [execOp, Instr.loadAt, Instr.sureAddr, hq, loadVar_one ha hc])

end addr
end Go.Gv
