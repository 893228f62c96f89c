/- Literals of structs and slices. -/
import Derived.Test.YthfemmcodfajaaaDoorG12
set_option linter.unusedVariables false
set_option linter.unusedSimpArgs false
namespace Go.Gv
open Go.RowKit

/-- A new block that holds for good. -/
def frz (H : HF) (b : Nat) (us : List Value) : HF := ⟨fun c o => if c = b then us[o]? else H.c c o, H.m⟩
theorem HOk.fresh {H : HF} {w : World} (h : HOk H w) (o : Nat) : H.c w.heap.size o = none := by
  cases hx : H.c w.heap.size o with
  | none => rfl
  | some v => have := lt_of_cell (h.c _ _ _ hx); omega
theorem frz_le {H : HF} {w : World} (h : HOk H w) (us : List Value) : HLe H (frz H w.heap.size us) :=
  ⟨fun b o v hv => by
    show (if b = w.heap.size then us[o]? else H.c b o) = some v
    split
    · next e => subst e; rw [h.fresh] at hv; cases hv
    · exact hv, fun _ _ h => h⟩
theorem Mem.frz {w0 w : World} {H0 H : HF} {B : Nat → Prop} {γ : Ids} {σ : Sg} (h : Mem w0 H0 B γ H σ w) (γ' : Ids) (us : List Value) (el : TypeId) : Mem w H (fun _ => False) γ' (frz H w.heap.size us) [] (w.alloc (.cells us.toArray el)) := by
  have old : ∀ k, k < w.heap.size → (w.alloc (.cells us.toArray el)).heap[k]? = w.heap[k]? := fun k hk => Below.heap_alloc w _ k hk
  refine ⟨⟨rfl, rfl, rfl, by simp, fun k hk _ => old k hk⟩, frz_le h.hok us, ⟨fun b o v hv => ?_, fun b x hx => .inl hx⟩, ⟨fun b o v hv => ?_, fun b es c hv => ?_⟩, fun i e h => by simp [look] at h, fun i e h => by simp [look] at h, fun i e h => by simp [look] at h, fun i e j e' b h => by simp [look] at h⟩
  · by_cases e : b = w.heap.size
    · exact .inr (.inl (by omega))
    · exact .inl (by simpa [Gv.frz, e] using hv)
  · by_cases e : b = w.heap.size
    · subst e
      have : us[o]? = some v := by simpa [Gv.frz] using hv
      simp only [World.cell?, World.alloc_heap_new]
      simpa using this
    · have hv' : H.c b o = some v := by simpa [Gv.frz, e] using hv
      have h0 := h.hok.c b o v hv'
      have hlt := lt_of_cell h0
      simp only [World.cell?] at h0 ⊢
      rw [old b hlt]; exact h0
  · have := h.hok.m b es c hv
    exact (old b (lt_of_heap this)).trans this

/-! ### Literals -/
theorem foldl_setL {α : Type} (off : Nat) : ∀ (vs us : List α) (k : Nat), (vs.zipIdx k).foldl (fun (cs : Array α) (p : α × Nat) => cs.setIfInBounds (off + p.2) p.1) us.toArray = (setL us (off + k) vs).toArray
  | [], us, k => rfl
  | v :: vs, us, k => by
    simp only [List.zipIdx_cons, List.foldl_cons, setL]
    rw [show us.toArray.setIfInBounds (off + k) v = (us.set (off + k) v).toArray from by simp, foldl_setL off vs _ (k + 1)]
    rfl

def fillAV (place : Nat → Option (Nat × Nat)) (cells : List AV) : List (Nat × AV) → Option (List AV)
  | [] => some cells
  | (i, a) :: r => match place i with
    | none => none
    | some (off, size) => match oneAV a && Nat.beq (avCells a).length size && Nat.ble (off + size) cells.length with
      | true => fillAV place (setL cells off (avCells a)) r
      | false => none

theorem fill_sound {γ : Ids} {H : HF} {place : Nat → Option (Nat × Nat)} {cs' : List AV} : ∀ (ps : List (Nat × AV)) (vs : List (Nat × Value)) (cs : List AV) (us : List Value), us.length = cs.length →
    (∀ (j : Nat) (x : AV) (y : Value), cs[j]? = some x → us[j]? = some y → Rep γ H x y) → vs.length = ps.length →
    (∀ (j : Nat) (p : Nat × AV) (q : Nat × Value), ps[j]? = some p → vs[j]? = some q → p.1 = q.1 ∧ Rep γ H p.2 q.2) → fillAV place cs ps = some cs' →
    ∃ us' : List Value, Instr.fill place us.toArray vs = some us'.toArray ∧ us'.length = cs'.length ∧ ∀ (j : Nat) (x : AV) (y : Value), cs'[j]? = some x → us'[j]? = some y → Rep γ H x y
  | [], [], cs, us, hl, hr, _, _, h => by
    simp only [fillAV, Option.some.injEq] at h; subst h
    exact ⟨us, rfl, hl, hr⟩
  | (i, a) :: ps, (i', v) :: vs, cs, us, hl, hr, hlen, hp, h => by
    obtain ⟨hi, ha⟩ := hp 0 _ _ rfl rfl
    simp only at hi ha
    subst hi
    simp only [fillAV] at h
    split at h
    · cases h
    · next off size hpl =>
      split at h
      · next hb =>
        simp only [Bool.and_eq_true, Nat.beq_eq, Nat.ble_eq] at hb
        obtain ⟨⟨h1, h2⟩, h3⟩ := hb
        obtain ⟨ws, hw, hwl, hwr⟩ := rep_cells ha h1
        obtain ⟨us', e1, e2, e3⟩ := fill_sound ps vs (setL cs off (avCells a)) (setL us off ws) (by rw [setL_length, setL_length, hl]) (setL_reps (R := Rep γ H) _ _ _ _ _ hl hwl hr hwr) (by simpa using hlen)
          (fun j p q hj hq => hp (j + 1) p q (by simpa using hj) (by simpa using hq)) h
        refine ⟨us', ?_, e2, e3⟩
        simp only [Instr.fill, hpl, hw]
        have hsz : (ws.toArray.size ≠ size) = False := by simp; omega
        have hle : (off + ws.toArray.size > us.toArray.size) = False := by simp; omega
        simp only [hsz, hle, decide_false, Bool.or_self, Bool.false_eq_true, if_false]
        have := foldl_setL off ws us 0
        rw [Nat.add_zero] at this
        rw [show ws.toArray.zipIdx = (ws.zipIdx).toArray from by simp, List.foldl_toArray', this]
        exact e1
        rfl
      · cases h
  | [], _ :: _, _, _, _, _, hlen, _, _ => by simp at hlen
  | _ :: _, [], _, _, _, _, hlen, _, _ => by simp at hlen

/-- The zero cells of a row. -/
def zeroAV (z : List Value) (n : Nat) : List AV := (List.range n).map fun i => match z[i % z.length]? with
  | some x => cellAV x
  | none => .junk

theorem zero_reps {γ : Ids} {H : HF} {z : Array Value} {n : Nat} : ((Array.range n).map (z[· % z.size]!)).toList.length = (zeroAV z.toList n).length ∧
    ∀ (j : Nat) (x : AV) (y : Value), (zeroAV z.toList n)[j]? = some x → ((Array.range n).map (z[· % z.size]!)).toList[j]? = some y → Rep γ H x y := by
  refine ⟨by simp [zeroAV], fun j x y hx hy => ?_⟩
  simp only [zeroAV, List.getElem?_map, Option.map_eq_some_iff] at hx
  obtain ⟨i, hi, rfl⟩ := hx
  have hij : i = j ∧ j < n := by
    rw [List.getElem?_eq_some_iff] at hi
    obtain ⟨h1, h2⟩ := hi
    simp at h1 h2
    exact ⟨h2.symm, h1⟩
  obtain ⟨rfl, hin⟩ := hij
  have hy' : y = z[i % z.size]! := by
    simp [hin] at hy
    exact hy.symm
  subst hy'
  rw [show z.toList.length = z.size from by simp]
  split
  · next v hv =>
    have : z[i % z.size]! = v := by
      rw [Array.getElem?_toList] at hv
      rw [getElem!_def, hv]
    rw [this]; exact rep_cellAV v
  · exact .junk _

def chunk (k n : Nat) (ds : List D) : List (List D) := (List.range n).map fun j => (ds.drop (j * k)).take k

theorem chunk_get {k n : Nat} {ds : List D} (hl : ds.length = n * k) {j l : Nat} {cs : List D} {a : D} (hj : (chunk k n ds)[j]? = some cs) (ha : cs[l]? = some a) : j < n ∧ l < k ∧ ds[j * k + l]? = some a := by
  simp only [chunk, List.getElem?_map, Option.map_eq_some_iff] at hj
  obtain ⟨i, hi, rfl⟩ := hj
  rw [List.getElem?_eq_some_iff] at hi
  obtain ⟨h1, h2⟩ := hi
  simp at h1 h2
  subst h2
  rw [List.getElem?_take] at ha
  split at ha
  · next h3 => rw [List.getElem?_drop] at ha; exact ⟨h1, h3, ha⟩
  · cases ha
theorem chunk_len {k n : Nat} {ds : List D} (hl : ds.length = n * k) : (chunk k n ds).length = n ∧ ∀ cs, cs ∈ chunk k n ds → cs.length = k := by
  refine ⟨by simp [chunk], fun cs hcs => ?_⟩
  simp only [chunk, List.mem_map, List.mem_range] at hcs
  obtain ⟨j, hj, rfl⟩ := hcs
  have : j * k + k ≤ n * k := by
    calc j * k + k = (j + 1) * k := by rw [Nat.add_mul]; omega
      _ ≤ n * k := Nat.mul_le_mul_right _ (by omega)
  simp; omega


section lit
variable {X : Cx} {d : Option Nat} {ty : TypeId} {pos : String} {aft : Array Edge} {g : Option (Nat × Bool)} {t : T} {σ : Sg} {K : T → Sg → Prop}
/-- The parts of a literal. -/
def geParts (t : T) : List (Nat × Operand) → Option (List (Nat × AV))
  | [] => some []
  | (i, o) :: l => match ge t o with
    | some a => match geParts t l with
      | some r => some ((i, a) :: r)
      | none => none
    | none => none
theorem geParts_sound {γ : Ids} {H : HF} {a : Act} : ∀ {l : List (Nat × Operand)} {ps : List (Nat × AV)} (_ : ∀ x, x ∈ l.map Prod.snd → ∀ v, ge t x = some v → Rep γ H v (a.eval x)), geParts t l = some ps →
    (l.map fun p => (p.1, a.eval p.2)).length = ps.length ∧ ∀ (j : Nat) (p : Nat × AV) (q : Nat × Value), ps[j]? = some p → (l.map fun p => (p.1, a.eval p.2))[j]? = some q → p.1 = q.1 ∧ Rep γ H p.2 q.2
  | [], ps, _, h => by simp only [geParts, Option.some.injEq] at h; subst h; simp
  | (i, o) :: l, ps, ho, h => by
    simp only [geParts] at h
    split at h
    · next av hav =>
      split at h
      · next r hr =>
        simp only [Option.some.injEq] at h; subst h
        obtain ⟨h1, h2⟩ := geParts_sound (l := l) (fun x hx => ho x (by simp only [List.map_cons, List.mem_cons]; exact .inr hx)) hr
        refine ⟨by simpa using h1, fun j p q hp hq => ?_⟩
        cases j with
        | zero => simp at hp hq; subst hp; subst hq; exact ⟨rfl, ho o (by simp) av hav⟩
        | succ j => exact h2 j p q (by simpa using hp) (by simpa using hq)
      · cases h
    · cases h

theorem slice_run {P : Program} {st el : TypeId} {len k : Nat} {z : Value} {vs : List (Nat × Value)} {us' : List Value} {w : World} (hu : P.underlying st = some (.slice el)) (hz : ∀ w, (sizeOf el).run P w = .ok k w) (hzv : ∀ w, (zeroValue el).run P w = .ok z w)
    (hsm : len * k ≤ 16777216) (hf : Instr.fill (fun i => some (i * k, k)) ((Array.range (len * k)).map (z.cells[· % z.cells.size]!)) vs = some us'.toArray) :
    (Instr.buildSlice st len vs.toArray).run P w = .ok (.slice (some ⟨w.heap.size, 0, none⟩) len len) (w.alloc (.cells us'.toArray el)) := by
  have hsm' : ¬ (len * k > 16777216) := by omega
  by_cases h0 : len * k = 0
  · have e0 : ∀ f : Nat → Value, (Array.range 0).map f = #[] := fun f => by simp [Array.range]
    rw [h0, e0] at hf
    simp only [Instr.buildSlice, underlying, Sem.run_bind, run_program, Result.andThen_ok, hu, Sem.run_pure, hz, h0]
    simp only [e0]
    simp [hf, newRow]
  · simp only [Instr.buildSlice, underlying, Sem.run_bind, run_program, Result.andThen_ok, hu, Sem.run_pure, hz]
    simp [hsm', h0, hzv, hf, newRow]

/-- **A slice literal that is data at once.** -/
theorem O.mkD {st el : TypeId} {len k : Nat} {parts : Array (Nat × Operand)} {z : Value} {ps : List (Nat × AV)} {cs : List AV} {ds : List D} (hp : geParts t parts.toList = some ps) (hu : X.P.underlying st = some (.slice el))
    (hz : ∀ w, (sizeOf el).run X.P w = .ok k w) (hzv : ∀ w, (zeroValue el).run X.P w = .ok z w) (hsm : len * k ≤ 16777216) (hle0 : len ≤ 16777216) (hf : fillAV (fun i => some (i * k, k)) (zeroAV z.cells.toList (len * k)) ps = some cs) (hd : dAll cs = some ds) (hl : ds.length = len * k) :
    QJ X ⟨d, .buildSlice st len parts, ty, pos, aft, g⟩ t σ (.full k (chunk k len ds)) := by
  intro γ H a w _ so sm next Q' hk
  obtain ⟨h1, h2⟩ := geParts_sound (t := t) (l := parts.toList) (fun x hx => so x (by simp [Op.operands] at hx ⊢; exact hx)) hp
  obtain ⟨hz1, hz2⟩ := zero_reps (γ := γ) (H := H) (z := z.cells) (n := len * k)
  obtain ⟨us', e1, e2, e3⟩ := fill_sound (γ := γ) (H := H) ps _ (zeroAV z.cells.toList (len * k)) _ hz1 hz2 h1 h2 hf
  simp only [Array.toArray_toList] at e1
  have hrun := slice_run (P := X.P) (w := w) hu hz hzv hsm e1
  have hx : (execOp a.eval ⟨d, .buildSlice st len parts, ty, pos, aft, g⟩).run X.P w = .ok (.value (.slice (some ⟨w.heap.size, 0, none⟩) len len)) (w.alloc (.cells us'.toArray el)) := by
    have e : parts.map (fun (i, x) => (i, a.eval x)) = (parts.toList.map fun p => (p.1, a.eval p.2)).toArray := by
      apply Array.toList_inj.1; simp
    simp only [execOp, Sem.run_bind]
    rw [e, hrun]; rfl
  rw [semAt_of (by simp), hx, Oper.uponIn_value]
  obtain ⟨hd1, hd2⟩ := dAll_get hd
  have hul : us'.length = len * k := by rw [e2, ← hd1, hl]
  have hle := frz_le sm.hok us'
  obtain ⟨hc1, hc2⟩ := chunk_len (k := k) hl
  refine hk _ γ [] _ _ (sm.frz γ us' el) ?_
  have hr : RepD (frz H w.heap.size us') (.sl k (chunk k len ds)) (.slice (some ⟨w.heap.size, 0, none⟩) (chunk k len ds).length (chunk k len ds).length) := by
    by_cases hk0 : k = 0
    · subst hk0
      refine .sl 0 _ _ _ w.heap.size 0 (fun _ _ => undef) hc2 (Nat.le_refl _) ?_ (fun _ => rfl) (fun j i _ hi => by omega) (fun j i cs a h3 h4 => ?_)
      · rw [hc1]; omega
      · obtain ⟨_, h5, _⟩ := chunk_get hl h3 h4; omega
    · refine .sl k _ _ _ w.heap.size 0 (fun j i => us'.getD (j * k + i) undef) hc2 (Nat.le_refl _) ?_ (fun _ => rfl) (fun j i hj hi => ?_) (fun j i cs a h3 h4 => ?_)
      · rw [hc1]
        have : len ≤ len * k := Nat.le_mul_of_pos_right _ (by omega)
        omega
      · have hlt : j * k + i < us'.length := by
          rw [hul]
          rw [hc1] at hj
          calc j * k + i < j * k + k := by omega
            _ = (j + 1) * k := by rw [Nat.add_mul]; omega
            _ ≤ len * k := Nat.mul_le_mul_right _ (by omega)
        show (if w.heap.size = w.heap.size then us'[0 + j * k + i]? else _) = _
        rw [if_pos rfl, Nat.zero_add, List.getD_eq_getElem?_getD, List.getElem?_eq_getElem hlt]; rfl
      · obtain ⟨h5, h6, h7⟩ := chunk_get hl h3 h4
        obtain ⟨av, h8, h9⟩ := hd2 _ a h7
        have hlt : j * k + i < us'.length := by rw [e2]; exact (List.getElem?_eq_some_iff.1 h8).1
        have := e3 _ av us'[j * k + i] h8 (by simp [hlt])
        rw [List.getD_eq_getElem?_getD, List.getElem?_eq_getElem hlt]
        exact (dOf_sound h9 this).mono hle
  have := Rep.full (γ := γ) (H := frz H w.heap.size us') k _ _ hr
  rw [hc1] at this
  exact this
theorem sizeOf_cells {P : Program} {t : TypeId} (h : (P.info? t).isSome = true) (w : World) : (sizeOf t).run P w = .ok (P.cellsOf t) w := by
  cases hi : P.info? t with
  | none => rw [hi] at h; cases h
  | some i => simp [sizeOf, typeInfo, Program.cellsOf, hi]
theorem places_run {P : Program} {w : World} : ∀ (fs : List Field), (fs.all fun f => (P.info? f.type).isSome) = true →
    (fs.mapM fun f => do pure (f.offset, ← sizeOf f.type) : Sem (List (Nat × Nat))).run P w = .ok (fs.map fun f => (f.offset, P.cellsOf f.type)) w
  | [], _ => by simp
  | f :: fs, h => by
    simp only [List.all_cons, Bool.and_eq_true] at h
    have ih := places_run (w := w) fs h.2
    simp only [List.mapM_cons, Sem.run_bind, sizeOf_cells h.1, Result.andThen_ok, Sem.run_pure, ih, List.map_cons]

/-- A struct's literal. -/
theorem O.build {s : TypeId} {fs : Array Field} {parts : Array (Nat × Operand)} {z : Value} {ps : List (Nat × AV)} {cs : List AV} (hp : geParts t parts.toList = some ps) (hu : X.P.underlying s = some (.struct fs))
    (hzv : ∀ w, (zeroValue s).run X.P w = .ok z w) (hpl : (fs.toList.all fun f => (X.P.info? f.type).isSome) = true)
    (hf : fillAV (fun i => ((fs.toList.map fun f => (f.offset, X.P.cellsOf f.type)))[i]?) (z.cells.toList.map cellAV) ps = some cs) : QJ X ⟨d, .build s parts, ty, pos, aft, g⟩ t σ (.agg cs) :=
  QJ.value (by simp) (fun γ H a w so sm => by
    obtain ⟨h1, h2⟩ := geParts_sound (t := t) (l := parts.toList) (fun x hx => so x (by simp [Op.operands] at hx ⊢; exact hx)) hp
    obtain ⟨us', e1, e2, e3⟩ := fill_sound (γ := γ) (H := H) ps _ (z.cells.toList.map cellAV) z.cells.toList (by simp) (fun j x y hx hy => by
      simp only [List.getElem?_map, hy, Option.map_some, Option.some.injEq] at hx
      subst hx; exact rep_cellAV y) h1 h2 hf
    simp only [Array.toArray_toList] at e1
    refine ⟨.agg us'.toArray, ?_, .agg _ _ e2 e3⟩
    have e : parts.map (fun (i, x) => (i, a.eval x)) = (parts.toList.map fun p => (p.1, a.eval p.2)).toArray := by
      apply Array.toList_inj.1; simp
    simp only [execOp, Sem.run_bind, e, Instr.build, hzv, Result.andThen_ok, run_underlying hu]
    have hpl' := places_run (w := w) _ hpl
    have hpa : (fs.mapM fun f => do pure (f.offset, ← sizeOf f.type) : Sem (Array (Nat × Nat))).run X.P w = .ok (fs.toList.map fun f => (f.offset, X.P.cellsOf f.type)).toArray w := by
      rw [Array.mapM_eq_mapM_toList]
      simp only [Sem.run_map, hpl', Result.andThen_ok]
    rw [hpa]
    simp only [Result.andThen_ok, List.getElem?_toArray, e1, Sem.run_pure])

end lit
end Go.Gv
