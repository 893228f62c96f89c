/- Calls that only read what is private; arrays: their comparison, and as results. -/
import Derived.Test.YthfemmcodfajaaaDoorFwL
import Derived.Laws.StructEq
set_option linter.unusedVariables false
set_option linter.unusedSimpArgs false
namespace Go.Sv
open Go.RowKit

/-! ### A call that is lent the whole memory -/
/-- Says nothing of memory. -/
def AV.scalar : AV → Bool
  | .d (.v _) => true
  | _ => false
def AV.scal : AV → Bool
  | .d (.v _) => true
  | .agg cs => cs.all AV.scalar
  | .tup cs => cs.all AV.scalar
  | _ => false
theorem Rep.scalar {γ γ' : Ids} {H H' : HF} {a : AV} {u : Value} (h : a.scalar = true) (r : Rep γ H a u) : Rep γ' H' a u := by
  cases r with
  | d x u hr => cases hr with
    | v _ hx => exact .d _ _ (.v _ hx)
    | _ => simp [AV.scalar] at h
  | _ => simp [AV.scalar] at h
theorem Rep.scal {γ γ' : Ids} {H H' : HF} {a : AV} {u : Value} (h : a.scal = true) (r : Rep γ H a u) : Rep γ' H' a u := by
  cases r with
  | d x u hr => cases hr with
    | v _ hx => exact .d _ _ (.v _ hx)
    | _ => simp [AV.scal] at h
  | agg cs us hl hr =>
    simp only [AV.scal, List.all_eq_true] at h
    exact .agg cs us hl fun j a u h1 h2 => (hr j a u h1 h2).scalar (h a (mem_of_get h1))
  | tup cs us hl hr =>
    simp only [AV.scal, List.all_eq_true] at h
    exact .tup cs us hl fun j a u h1 h2 => (hr j a u h1 h2).scalar (h a (mem_of_get h1))
  | _ => simp [AV.scal] at h

/-- What a private thing looks like to who only reads. -/
inductive View (σ : Sg) : AV → AV → Prop where
  | same (a : AV) (h : a.open = true) : View σ a a
  | arr (i k n : Nat) (xs : List (List D)) (h : look i σ = some (.arr k xs)) (hn : xs.length = n) (hm : n ≤ 9223372036854775807) : View σ (.arr i k n) (.d (.sl k xs))
  | box (i : Nat) (cs : List AV) (ds : List D) (h : look i σ = some (.cells cs)) (hd : dAll cs = some ds) : View σ (.box i 0) (.d (.ptr ds))

def Views (σ : Sg) : List AV → List AV → Prop
  | [], [] => True
  | a :: r, b :: s => View σ a b ∧ Views σ r s
  | _, _ => False

theorem View.sound {σ : Sg} {w0 w : World} {H0 H : HF} {B : Nat → Prop} {γ γ' : Ids} (m : Mem w0 H0 B γ H σ w) {a b : AV} {u : Value} (v : View σ a b) (r : Rep γ H a u) : Rep γ' (cellH w) b u := by
  have hle : HLe H (cellH w) := m.hok
  cases v with
  | same a h => exact (r.mono hle).free h
  | arr i k n xs hi hn hm =>
    obtain ⟨e1, e2, e3⟩ := m.ent i _ hi
    cases r with
    | arr _ _ _ A hn' hA =>
      refine .d _ _ ?_
      by_cases h0 : 0 < (γ i).2
      · obtain ⟨_, tt, us, q1, q2, q3⟩ := e3 h0
        have key := RepD.sl (H := cellH w) k xs A (γ i).2 (γ i).1 0 (fun j l => us.getD (j * k + l) undef) e2 e1 (by omega) (fun _ => hA h0) (fun j l hj hl => by
          have hlt : j * k + l < us.length := by
            rw [q2]
            calc j * k + l < j * k + k := by omega
              _ = (j + 1) * k := by rw [Nat.succ_mul]
              _ ≤ (γ i).2 * k := Nat.mul_le_mul_right _ (by omega)
          show w.cell? _ = _
          rw [cell_of_block q1, Nat.zero_add, List.getD_eq_getElem?_getD, List.getElem?_eq_getElem hlt]; rfl) (fun j l cs d hj hd => by
          have hjl : j < xs.length := (List.getElem?_eq_some_iff.1 hj).1
          have hlk : l < k := by rw [← e2 cs (mem_of_get hj)]; exact (List.getElem?_eq_some_iff.1 hd).1
          have hlt : j * k + l < us.length := by
            rw [q2]
            calc j * k + l < j * k + k := by omega
              _ = (j + 1) * k := by rw [Nat.succ_mul]
              _ ≤ (γ i).2 * k := Nat.mul_le_mul_right _ (by omega)
          exact (q3 j l cs d _ hj hd (by rw [List.getD_eq_getElem?_getD, List.getElem?_eq_getElem hlt]; rfl)).mono hle)
        rw [hn] at key; exact key
      · have hxl : xs = [] := by
          cases xs with
          | nil => rfl
          | cons x r => simp only [List.length_cons] at e1; omega
        subst hxl
        have hn0 : n = 0 := by simpa using hn.symm
        subst hn0
        exact .sl k [] A _ 0 0 (fun _ _ => undef) (fun _ h => by simp at h) (by simp) (by simp) (fun h => by simp at h) (fun j i h => by simp at h) (fun j i cs a h => by simp at h)
  | box i cs ds hi hd =>
    obtain ⟨e1, tt, us, q1, q2, q3⟩ := m.ent i _ hi
    obtain ⟨d1, d2⟩ := dAll_get hd
    cases r
    refine .d _ _ (.ptr ds (γ i).1 0 (fun j => us.getD j undef) (fun j hj => ?_) fun j a ha => ?_)
    · have hlt : j < us.length := by omega
      show w.cell? _ = _
      rw [cell_of_block q1, Nat.zero_add, List.getD_eq_getElem?_getD, List.getElem?_eq_getElem hlt]; rfl
    · obtain ⟨x, h1, h2⟩ := d2 j a ha
      have hlt : j < us.length := by rw [q2]; exact (List.getElem?_eq_some_iff.1 h1).1
      exact (dOf_sound h2 (q3 j x _ h1 (by rw [List.getD_eq_getElem?_getD, List.getElem?_eq_getElem hlt]; rfl))).mono hle

theorem views_get {σ : Sg} : ∀ {l m : List AV}, Views σ l m → l.length = m.length ∧ ∀ (j : Nat) (b : AV), m[j]? = some b → ∃ a, l[j]? = some a ∧ View σ a b
  | [], [], _ => ⟨rfl, fun j b h => by simp at h⟩
  | a :: r, b :: s, ⟨h1, h2⟩ => by
    obtain ⟨e, f⟩ := views_get h2
    refine ⟨by simp [e], fun j c hj => ?_⟩
    cases j with
    | zero => simp at hj; subst hj; exact ⟨a, rfl, h1⟩
    | succ j => simpa using f j c (by simpa using hj)
  | [], _ :: _, h => h.elim
  | _ :: _, [], h => h.elim

/-- **A call that only reads what is private**: its result says nothing of memory. -/
theorem O.callB {X : Cx} {d : Option Nat} {ty : TypeId} {pos : String} {aft : Array Edge} {g : Option (Nat × Bool)} {t : T} {σ : Sg} {f : FuncId} {args : Array Operand} {tys : Array TypeId} {avs bvs : List AV} {r : AV}
    (hc : FnC X.P f bvs (fun q _ => q = r)) (hok : callOk X.P f)
    (ha : geAll t args.toList = some avs) (hv : Views σ avs bvs) (ho : r.scal = true) : QJ X ⟨d, .call { callee := .value (.func f), args := args, argTypes := tys }, ty, pos, aft, g⟩ t σ r := by
  intro γ H a w so sm next Q' hk
  have hx : (execOp a.eval ⟨d, .call { callee := .value (.func f), args := args, argTypes := tys }, ty, pos, aft, g⟩).run X.P w = .ok (.enter f (args.map a.eval)) w := by
    have := hok (args.map a.eval) w
    simpa [execOp, resolve, Act.eval, Deferred.ofValue, invoke] using this
  rw [semAt_of (by simp), hx, Oper.uponIn_enter]
  refine ⟨fun h => by simp [Fr] at h, ?_⟩
  have hso : ∀ x, x ∈ args.toList → ∀ v, ge t x = some v → Rep γ H v (a.eval x) := fun x hx => so x (by simp [Op.operands, Call.operands] at hx ⊢; exact .inr hx)
  obtain ⟨vl, vg⟩ := views_get hv
  have := hc X.ro γ (cellH w) w (args.map a.eval).toList (fun _ _ _ h => h) (by have := congrArg List.length (geAll_map ha); simp at this; simp; omega) (by
    have := ge_list' hso (geAll_map ha)
    intro j b u hj hu
    obtain ⟨x, hx, hvw⟩ := vg j b hj
    exact hvw.sound sm (this j x u hx (by simpa using hu)))
  simp only [Array.toArray_toList] at this
  refine (this.mono ?_)
  rintro e w' ⟨v, r', σ', γ', H', rfl, rfl, hr, hm⟩
  have hblk : ∀ k, k < w.heap.size → w'.heap[k]? = w.heap[k]? := fun k hk => hm.keep.block k hk (fun x => x)
  have hm' : Mem w H (fun _ => False) γ H [] w' := ⟨hm.keep, HLe.refl _, fun b o v h => .inl h, fun b o v h => by
    have h1 := sm.hok b o v h
    have hlt : b < w.heap.size := by
      unfold World.cell? at h1
      split at h1
      · next hb => exact lt_of_heap hb
      · cases h1
    simp only [World.cell?] at h1 ⊢
    rw [hblk b hlt]; exact h1, fun i e h => by simp [look] at h, fun i e h => by simp [look] at h, fun i e j e' h => by simp [look] at h⟩
  exact hk v γ [] H w' hm' (hr.scal ho)

/-! ### The result is a variable -/
theorem ret_cell {X : Cx} {fn : Func} {t : T} {σ : Sg} {i j n : Nat} {ty : TypeId} {cs : List AV} (hr : fn.results = #[.cell i ty]) (hi : look i t = some (.box j 0)) (hj : look j σ = some (.cells cs))
    (ha : ∀ w, (isAgg ty).run X.P w = .ok true w) (hs : ∀ w, (sizeOf ty).run X.P w = .ok n w) (hl : cs.length = n) : RetIs X fn t σ (.agg cs) := by
  intro γ H a w s
  obtain ⟨u, hu, h⟩ := s.tmp i _ hi
  obtain ⟨_, tt, us, h2, h3, h4⟩ := s.mem.ent j _ hj
  cases h
  have := loadVar_agg (P := X.P) (w := w) (b := (γ j).1) (off := 0) (us := us) ha hs (by omega) (fun l hl' => by rw [cell_of_block h2, Nat.zero_add])
  exact ⟨.agg us.toArray, by simp [results, hr, Array.getD_eq_getD_getElem?, hu, asAddr, this], .agg _ _ h3 h4⟩
theorem ret_cell1 {X : Cx} {fn : Func} {t : T} {σ : Sg} {i j : Nat} {ty : TypeId} {cs : List AV} {r : AV} (hr : fn.results = #[.cell i ty]) (hi : look i t = some (.box j 0)) (hj : look j σ = some (.cells cs)) (h0 : cs[0]? = some r)
    (ha : ∀ w, (isAgg ty).run X.P w = .ok false w) : RetIs X fn t σ r := by
  intro γ H a w s
  obtain ⟨u, hu, h⟩ := s.tmp i _ hi
  obtain ⟨_, tt, us, h2, h3, h4⟩ := s.mem.ent j _ hj
  cases h
  have hlt : 0 < us.length := by rw [h3]; exact (List.getElem?_eq_some_iff.1 h0).1
  have hc : w.cell? ⟨(γ j).1, 0, none⟩ = some us[0] := by rw [cell_of_block h2]; simp [hlt]
  exact ⟨us[0], by simp [results, hr, Array.getD_eq_getD_getElem?, hu, asAddr, loadVar_one ha hc], h4 0 r _ h0 (by simp [hlt])⟩

/-! ### Arrays of ints compared -/
def intsV (k : IntKind) (xs : List Int) : List Value := xs.map (.int k)
def agI (k : IntKind) (xs : List Int) : List AV := xs.map fun x => .d (.v (.int k x))
theorem rep_agI {γ : Ids} {H : HF} {k : IntKind} {xs : List Int} {u : Value} (r : Rep γ H (.agg (agI k xs)) u) : u = .agg (intsV k xs).toArray := by
  cases r with
  | agg _ us hl hr =>
    congr 2
    apply List.ext_getElem?
    intro j
    cases hx : xs[j]? with
    | none => simp [intsV, agI] at hl ⊢; rw [hx]; simp at hx; simp; omega
    | some x =>
      have hlt : j < us.length := by rw [hl]; simp [agI]; exact (List.getElem?_eq_some_iff.1 hx).1
      have := hr j (.d (.v (.int k x))) us[j] (by simp [agI, hx]) (by simp [hlt])
      simp [intsV, hx, hlt]
      exact rep_v this

theorem forIn_all {P : Program} {w : World} {β : Type} (y n : β) (f : Nat → β → Sem (ForInStep β)) (cb : Nat → Bool) : ∀ (l : List Nat), (∀ i, i ∈ l → (f i y).run P w = .ok (if cb i then .yield y else .done n) w) →
    (forIn l y f : Sem β).run P w = .ok (if l.all cb then y else n) w
  | [], _ => by simp
  | i :: l, h => by
    simp only [List.forIn_cons, Sem.run_bind, h i (by simp), Result.andThen_ok, List.all_cons]
    by_cases hb : cb i = true
    · have := forIn_all y n f cb l fun j hj => h j (by simp [hj])
      simp only [hb, if_true, Bool.true_and]
      exact this
    · simp [hb]

theorem eq_ints {P : Program} {w : World} {t e : TypeId} {n d : Nat} {k : IntKind} {xs ys : List Int} (ht : P.underlying t = some (.array n e)) (he : P.underlying e = some (.int k)) (hs : ∀ w, (sizeOf e).run P w = .ok 1 w)
    (hp : ∀ (cs : Array Value) (i : Nat) (v : Value) (w : World), cs[i]? = some v → (part e cs i).run P w = .ok v w) (hx : xs.length = n) (hy : ys.length = n) :
    (Op.equalIn (d + 2) t (.agg (intsV k xs).toArray) (.agg (intsV k ys).toArray)).run P w = .ok (decide (xs = ys)) w := by
  have hc : ∀ i, i < n → (do Op.equalIn (d + 1) e (← part e (intsV k xs).toArray (i * 1)) (← part e (intsV k ys).toArray (i * 1)) : Sem Bool).run P w = .ok (xs.getD i 0 == ys.getD i 0) w := by
    intro i hi
    have h1 : (intsV k xs).toArray[i * 1]? = some (.int k (xs.getD i 0)) := by simp [intsV, hx, hi, List.getD_eq_getElem?_getD]
    have h2 : (intsV k ys).toArray[i * 1]? = some (.int k (ys.getD i 0)) := by simp [intsV, hy, hi, List.getD_eq_getElem?_getD]
    simp only [Sem.run_bind, hp _ _ _ _ h1, hp _ _ _ _ h2, Result.andThen_ok]
    exact run_equalIn_int w d e k k _ _ he
  have hd : decide (xs = ys) = (List.range n).all fun i => xs.getD i 0 == ys.getD i 0 := by
    rw [Bool.eq_iff_iff, decide_eq_true_iff, List.all_eq_true]
    constructor
    · rintro rfl i _; simp
    · intro h
      apply List.ext_getElem?
      intro i
      by_cases hi : i < n
      · have := h i (by simp [hi])
        simp only [List.getD_eq_getElem?_getD, beq_iff_eq] at this
        rw [List.getElem?_eq_getElem (by omega), List.getElem?_eq_getElem (by omega)] at this ⊢
        simpa using this
      · rw [List.getElem?_eq_none (by omega), List.getElem?_eq_none (by omega)]
  rw [hd]
  rw [Op.equalIn]
  simp only [Sem.run_bind, run_underlying ht, Result.andThen_ok, hs, Std.Legacy.Range.forIn_eq_forIn_range', Std.Legacy.Range.size, Nat.sub_zero, Nat.add_sub_cancel, Nat.div_one]
  rw [forIn_all (none, ()) (some false, ()) _ (fun i => xs.getD i 0 == ys.getD i 0) (List.range' 0 n) (fun i hi => ?_)]
  · simp only [Result.andThen_ok, List.range_eq_range']
    by_cases h : (List.range' 0 n).all (fun i => xs.getD i 0 == ys.getD i 0) = true
    · simp only [h, if_true]; rfl
    · simp only [h, Bool.false_eq_true, if_false]; rfl
  · have hin : i < n := by simpa using hi
    have h1 : (intsV k xs).toArray[i * 1]? = some (.int k (xs.getD i 0)) := by simp [intsV, hx, hin, List.getD_eq_getElem?_getD]
    have h2 : (intsV k ys).toArray[i * 1]? = some (.int k (ys.getD i 0)) := by simp [intsV, hy, hin, List.getD_eq_getElem?_getD]
    simp only [Sem.run_bind, hp _ _ _ _ h1, hp _ _ _ _ h2, Result.andThen_ok, run_equalIn_int w d e k k _ _ he]
    generalize (xs.getD i 0 == ys.getD i 0) = b
    cases b <;> simp

theorem part_one {P : Program} {e : TypeId} (ha : ∀ w, (isAgg e).run P w = .ok false w) : ∀ (cs : Array Value) (i : Nat) (v : Value) (w : World), cs[i]? = some v → (part e cs i).run P w = .ok v w := by
  intro cs i v w h
  simp [part, ha, h]

/-- Two arrays of ints compared. -/
theorem O.eqI {X : Cx} {dst : Option Nat} {ty : TypeId} {pos : String} {aft : Array Edge} {g : Option (Nat × Bool)} {σ : Sg} {tt : T} {t e yt : TypeId} {n : Nat} {k : IntKind} {xs ys : List Int} {x y : Operand}
    (hx : ge tt x = some (.agg (agI k xs))) (hy : ge tt y = some (.agg (agI k ys))) (ht : X.P.underlying t = some (.array n e)) (he : X.P.underlying e = some (.int k)) (hs : ∀ w, (sizeOf e).run X.P w = .ok 1 w)
    (hg : X.P.eqGuardType X.P.depth t = false)
    (ha : ∀ w, (isAgg e).run X.P w = .ok false w) (hlx : xs.length = n) (hly : ys.length = n) :
    QJ X ⟨dst, .binOp .eql t x y yt, ty, pos, aft, g⟩ tt σ (.d (.v (.bool (decide (xs = ys))))) :=
  QJ.value (by simp) (fun γ H a w so sm => by
    have h1 := rep_agI (so _ (by simp [Op.operands, Call.operands]) _ hx)
    have h2 := rep_agI (so _ (by simp [Op.operands, Call.operands]) _ hy)
    refine ⟨.bool (decide (xs = ys)), ?_, .d _ _ (.v _ rfl)⟩
    have h3 := eq_ints (P := X.P) (w := w) (d := 9998) ht he hs (part_one ha) hlx hly
    simp only [execOp, h1, h2, Sem.run_bind, run_eql_struct, run_eqGuard_agg w _ _ _ _ _ _ hg, Result.andThen_ok, h3, Sem.run_pure, run_eqGuard_agg])

/-! ### Symbolic arrays -/
@[simp] theorem agI_any1 (i : Nat) (k : IntKind) (xs : List Int) : (agI k xs).any (has1 i) = false := by
  simp only [agI, List.any_map, List.any_eq_false]; intro x _; simp [has1, has0]
@[simp] theorem agI_any2 (i : Nat) (k : IntKind) (xs : List Int) : (agI k xs).any (has2 i) = false := by
  simp only [agI, List.any_map, List.any_eq_false]; intro x _; simp [has2, has1, has0]
@[simp] theorem agI_oneAll (k : IntKind) (xs : List Int) : oneAll (agI k xs) = true := by
  induction xs with
  | nil => rfl
  | cons x r ih => simpa [agI, oneAll, oneAV] using ih
@[simp] theorem agI_len (k : IntKind) (xs : List Int) : (agI k xs).length = xs.length := by simp [agI]
theorem agI_get {k : IntKind} {xs : List Int} {j : Nat} (h : j < xs.length) : (agI k xs)[j]? = some (.d (.v (.int k (xs.getD j 0)))) := by
  simp [agI, List.getD_eq_getElem?_getD, h]
theorem agI_set {k : IntKind} {xs : List Int} {j : Nat} {v : Int} : (agI k xs).set j (.d (.v (.int k v))) = agI k (xs.set j v) := by simp [agI, List.map_set]
theorem agI_scal (k : IntKind) (xs : List Int) : (AV.agg (agI k xs)).scal = true := by simp [AV.scal, agI, AV.scalar]
theorem agI_open (k : IntKind) (xs : List Int) : (AV.agg (agI k xs)).open = true := by simp [AV.open, agI, AV.isD]
theorem setL_whole {α : Type} {us vs : List α} (h : us.length = vs.length) : setL us 0 vs = vs := by
  apply List.ext_getElem?
  intro j
  rw [setL_get vs us 0 j (by omega)]
  by_cases hj : j < vs.length
  · rw [if_pos (by omega)]; simp
  · rw [if_neg (by omega), List.getElem?_eq_none (by omega), List.getElem?_eq_none (by omega)]

section
variable {X : Cx} {d : Option Nat} {ty : TypeId} {pos : String} {aft : Array Edge} {g : Option (Nat × Bool)} {t : T} {σ : Sg} {K : T → Sg → Prop}
/-- A whole variable is loaded. -/
theorem O.loadAll {x : Operand} {i n : Nat} {cs : List AV} {e : TypeId} (hx : ge t x = some (.box i 0)) (hi : look i σ = some (.cells cs)) (ha : ∀ w, (isAgg e).run X.P w = .ok true w)
    (hs : ∀ w, (sizeOf e).run X.P w = .ok n w) (hl : cs.length = n) : QJ X ⟨d, .load e x, ty, pos, aft, g⟩ t σ (.agg cs) := by
  have := O.loadN (X := X) (d := d) (ty := ty) (pos := pos) (aft := aft) (g := g) (t := t) (σ := σ) hx hi ha hs (by omega)
  rwa [List.drop_zero, List.take_of_length_le (by omega)] at this

/-- A whole variable is stored. -/
theorem O.storeAll {x y : Operand} {i n : Nat} {cs vs : List AV} {e : TypeId} (hx : ge t x = some (.box i 0)) (hy : ge t y = some (.agg vs)) (hi : look i σ = some (.cells cs)) (h2 : oneAll vs = true)
    (hs : ∀ w, (sizeOf e).run X.P w = .ok n w) (hn : vs.length = n) (hl : cs.length = n) (k : K t ((i, .cells vs) :: σ)) : OpJ X ⟨none, .store e x y, ty, pos, aft, g⟩ t σ K :=
  O.store hx hy hi rfl h2 hs hn (by omega) (setL_whole (by show cs.length = vs.length; omega)) k
end
end Go.Sv
