/- Addresses; rows; slices: read, made, appended to. -/
import Derived.Test.YthfemmcodfajaaaDoorFwE
set_option linter.unusedVariables false
set_option linter.unusedSimpArgs false
namespace Go.Sv
open Go.RowKit

theorem add_lit (b o n : Nat) : (⟨b, o, none⟩ : Addr).add n = ⟨b, o + n, none⟩ := by
  unfold Addr.add; split <;> simp_all

section addr
variable {X : Cx} {d : Option Nat} {ty : TypeId} {pos : String} {aft : Array Edge} {g : Option (Nat × Bool)} {t : T} {σ : Sg} {K : T → Sg → Prop}

theorem WJ.cond {c : Operand} {x y : Code} {b : Bool} {Q : Qt} (hc : ge t c = some (.d (.v (.bool b)))) (ht : b = true → WJ X x t σ Q) (hf : b = false → WJ X y t σ Q) : WJ X (.cond c x y) t σ Q :=
  fun γ H a w s => wpIn_cond_split (t := b) (rep_v (ge_sound s.tmp hc)) (fun h => ht h γ H a w s) (fun h => hf h γ H a w s)

/-- A guard that is not decided yet. -/
theorem LJ.split {all : Array Oper} {k : Nat} {rest : List Oper} {Q : T → Sg → Prop} (i : Nat) {b : Bool} (hb : look i t = some (.d (.v (.bool b))))
    (ht : b = true → LJ X all k rest ((i, .d (.v (.bool true))) :: t) σ Q) (hf : b = false → LJ X all k rest ((i, .d (.v (.bool false))) :: t) σ Q) : LJ X all k rest t σ Q := by
  intro ha Q' hq γ H a w s
  have hs : ∀ c, b = c → St X.w0 X.H0 X.B X.N X.D γ H ((i, .d (.v (.bool c))) :: t) σ a w := fun c e => by
    refine ⟨s.defers, s.size, fun j x hj => ?_, s.mem⟩
    rw [look_cons] at hj
    split at hj
    · next e' => subst e'; simp only [Option.some.injEq] at hj; subst hj; subst e; exact s.tmp _ _ hb
    · exact s.tmp j x hj
  cases b with
  | true => exact ht rfl ha Q' hq γ H a w (hs _ rfl)
  | false => exact hf rfl ha Q' hq γ H a w (hs _ rfl)

theorem field_run {P : Program} {s : TypeId} {fs : Array Field} {fld : Nat} {f : Field} {n : Nat} {w : World} {b o : Nat} (hu : P.underlying s = some (.struct fs)) (hf : fs[fld]? = some f)
    (hz : ∀ w, (sizeOf f.type).run P w = .ok n w) (hn : Nat.beq n 0 = false) : (Instr.fieldAt s (.pointer (some ⟨b, o, none⟩)) fld).run P w = .ok (.pointer (some ⟨b, o + f.offset, none⟩)) w := by
  have hn' : n ≠ 0 := fun e => by subst e; simp at hn
  simp [Instr.fieldAt, underlying, hu, hf, Instr.sureAddr, fieldPlace, hz, hn', add_lit]

theorem O.fieldB {s : TypeId} {x : Operand} {fld i off : Nat} {fs : Array Field} {f : Field} {n : Nat} (hx : ge t x = some (.box i off)) (hu : X.P.underlying s = some (.struct fs)) (hf : fs[fld]? = some f)
    (hz : ∀ w, (sizeOf f.type).run X.P w = .ok n w) (hn : Nat.beq n 0 = false) : QJ X ⟨d, .fieldAddr s x fld, ty, pos, aft, g⟩ t σ ((.box i (off + f.offset))) :=
  QJ.value (by simp) (fun γ H a w so sm => by
    have h1 := so _ (by simp [Op.operands, Call.operands]) _ hx
    generalize hq : a.eval x = q at h1
    cases h1
    exact ⟨_, by simp [execOp, hq, field_run hu hf hz hn], .box i _⟩)

theorem O.fieldP {s : TypeId} {x : Operand} {fld : Nat} {cs : List D} {fs : Array Field} {f : Field} {n : Nat} (hx : ge t x = some (.d (.ptr cs))) (hu : X.P.underlying s = some (.struct fs)) (hf : fs[fld]? = some f)
    (hz : ∀ w, (sizeOf f.type).run X.P w = .ok n w) (hn : Nat.beq n 0 = false) : QJ X ⟨d, .fieldAddr s x fld, ty, pos, aft, g⟩ t σ ((.d (.ptr (cs.drop f.offset)))) :=
  QJ.value (by simp) (fun γ H a w so sm => by
    obtain ⟨b, o, us, h1, h2, h3⟩ := repd_ptr (rep_d (so _ (by simp [Op.operands, Call.operands]) _ hx))
    refine ⟨.pointer (some ⟨b, o + f.offset, none⟩), by simp [execOp, h1, field_run hu hf hz hn], .d _ _ (.ptr _ _ _ (fun j => us (f.offset + j)) (fun j hj => ?_) fun j a hj => ?_)⟩
    · simp only [List.length_drop] at hj
      rw [Nat.add_assoc]; exact h2 _ (by omega)
    · rw [List.getElem?_drop] at hj; exact h3 _ a hj)

/-- What is read by an index. -/
def elems : AV → Option (Nat × List (List D))
  | .d (.sl k xs) => some (k, xs)
  | .own _ k xs => some (k, xs)
  | _ => none
theorem rep_elems {γ : Ids} {H : HF} {a : AV} {u : Value} {k : Nat} {xs : List (List D)} (r : Rep γ H a u) (h : elems a = some (k, xs)) : RepD H (.sl k xs) u := by
  cases r with
  | d x u hr => cases x <;> simp [elems] at h; obtain ⟨rfl, rfl⟩ := h; exact hr
  | own w k xs A c hr ho => simp only [elems, Option.some.injEq, Prod.mk.injEq] at h; obtain ⟨rfl, rfl⟩ := h; exact hr
  | _ => simp [elems] at h

theorem O.idx {s e : TypeId} {x y : Operand} {av : AV} {k : Nat} {xs : List (List D)} {kk : IntKind} {m : Int} {cs : List D} (hx : ge t x = some av) (hy : ge t y = some (.d (.v (.int kk m)))) (hel : elems av = some (k, xs))
    (hu : X.P.underlying s = some (.slice e)) (hz : ∀ w, (sizeOf e).run X.P w = .ok k w) (hm : 0 ≤ m) (hc : xs[m.toNat]? = some cs) : QJ X ⟨d, .indexAddr s x y, ty, pos, aft, g⟩ t σ ((.d (.ptr cs))) :=
  QJ.value (by simp) (fun γ H a w so sm => by
    have hr := rep_elems (so _ (by simp [Op.operands, Call.operands]) _ hx) hel
    have h2 := rep_v (so _ (by simp [Op.operands, Call.operands]) _ hy)
    generalize hq : a.eval x = q at hr
    cases hr with
    | sl _ _ A c b o us hk hn hcap hA hH hrep =>
      have hlt : m.toNat < xs.length := (List.getElem?_eq_some_iff.1 hc).1
      have hA' := hA (by omega)
      subst hA'
      have hl : cs.length = k := hk cs (mem_of_get hc)
      refine ⟨.pointer (some ⟨b, o + m.toNat * k, none⟩), ?_, .d _ _ (.ptr _ _ _ (us m.toNat) (fun j hj => ?_) fun j a hj => hrep _ _ cs a hc hj)⟩
      · have hb : 0 ≤ m ∧ m < (xs.length : Int) := ⟨hm, by omega⟩
        simp [execOp, hq, h2, Instr.indexAt, asIntOf, underlying, hu, hz, hb, add_lit]
      · rw [hl] at hj
        have := hH m.toNat j hlt hj
        exact this)

theorem O.idxA {s e : TypeId} {x y : Operand} {i k n : Nat} {kk : IntKind} {m : Int} (hx : ge t x = some (.arr i k n)) (hy : ge t y = some (.d (.v (.int kk m))))
    (hu : X.P.underlying s = some (.slice e)) (hz : ∀ w, (sizeOf e).run X.P w = .ok k w) (hm : 0 ≤ m) (hc : m.toNat < n) : QJ X ⟨d, .indexAddr s x y, ty, pos, aft, g⟩ t σ ((.box i (m.toNat * k))) :=
  QJ.value (by simp) (fun γ H a w so sm => by
    have hr := so _ (by simp [Op.operands, Call.operands]) _ hx
    have h2 := rep_v (so _ (by simp [Op.operands, Call.operands]) _ hy)
    generalize hq : a.eval x = q at hr
    cases hr with
    | arr _ _ _ A hn hA =>
      have hA' := hA (by omega)
      subst hA'
      refine ⟨.pointer (some ⟨(γ i).1, m.toNat * k, none⟩), ?_, .box i _⟩
      have hb : 0 ≤ m ∧ m < (n : Int) := ⟨hm, by omega⟩
      simp [execOp, hq, h2, Instr.indexAt, asIntOf, underlying, hu, hz, hb, add_lit])

/-- An array variable's element. -/
theorem O.idxB {s e : TypeId} {x y : Operand} {i off k n : Nat} {kk : IntKind} {m : Int} (hx : ge t x = some (.box i off)) (hy : ge t y = some (.d (.v (.int kk m))))
    (hu : X.P.underlying s = some (.array n e)) (hz : ∀ w, (sizeOf e).run X.P w = .ok k w) (hm : 0 ≤ m) (hc : m < (n : Int)) : QJ X ⟨d, .indexAddr s x y, ty, pos, aft, g⟩ t σ ((.box i (off + m.toNat * k))) :=
  QJ.value (by simp) (fun γ H a w so sm => by
    have hr := so _ (by simp [Op.operands, Call.operands]) _ hx
    have h2 := rep_v (so _ (by simp [Op.operands, Call.operands]) _ hy)
    generalize hq : a.eval x = q at hr
    cases hr with
    | box =>
      refine ⟨.pointer (some ⟨(γ i).1, off + m.toNat * k, none⟩), ?_, .box i _⟩
      have hb : 0 ≤ m ∧ m < (n : Int) := ⟨hm, hc⟩
      simp [execOp, hq, h2, Instr.indexAt, Instr.sureAddr, asIntOf, underlying, hu, hz, hb, add_lit])

theorem O.nilP {x : Operand} {cs : List D} (hx : ge t x = some (.d (.ptr cs))) : QJ X ⟨d, .nilCheck x, ty, pos, aft, g⟩ t σ ((.d (.ptr cs))) :=
  QJ.value (by simp) (fun γ H a w so sm => by
    have hr := so _ (by simp [Op.operands, Call.operands]) _ hx
    obtain ⟨b, o, us, h1, _⟩ := repd_ptr (rep_d hr)
    exact ⟨a.eval x, by simp [execOp, h1], hr⟩)
theorem O.nilB {x : Operand} {i off : Nat} (hx : ge t x = some (.box i off)) : QJ X ⟨d, .nilCheck x, ty, pos, aft, g⟩ t σ ((.box i off)) :=
  QJ.value (by simp) (fun γ H a w so sm => by
    have hr := so _ (by simp [Op.operands, Call.operands]) _ hx
    generalize hq : a.eval x = q at hr
    cases hr
    exact ⟨_, by simp [execOp, hq], .box i off⟩)

theorem O.extract {x : Operand} {ix : Nat} {vs : List AV} {v : AV} (hx : ge t x = some (.tup vs)) (hv : vs[ix]? = some v) : QJ X ⟨d, .extract x ix, ty, pos, aft, g⟩ t σ (v) :=
  QJ.value (by simp) (fun γ H a w so sm => by
    have hr := so _ (by simp [Op.operands, Call.operands]) _ hx
    generalize hq : a.eval x = q at hr
    cases hr with
    | tup _ us hl hr =>
      have hlt : ix < us.length := by rw [hl]; exact (List.getElem?_eq_some_iff.1 hv).1
      refine ⟨us[ix], ?_, hr ix v _ hv (by simp [hlt])⟩
      simp [execOp, hq, Instr.extract, hlt])

/-! ### Private rows -/
theorem O.loadA {x : Operand} {i off : Nat} {k : Nat} {xs : List (List D)} {cs : List D} {v : D} {e : TypeId} {j l : Nat} (hx : ge t x = some (.box i off)) (hi : look i σ = some (.arr k xs)) (hj : off = j * k + l) (hv : xs[j]? = some cs) (hl : cs[l]? = some v)
    (ha : ∀ w, (isAgg e).run X.P w = .ok false w) : QJ X ⟨d, .load e x, ty, pos, aft, g⟩ t σ ((.d v)) :=
  QJ.value (by simp) (fun γ H a w so sm => by
    have h1 := so _ (by simp [Op.operands, Call.operands]) _ hx
    generalize hq : a.eval x = q at h1
    cases h1
    obtain ⟨hle, hk, h2⟩ := sm.ent i _ hi
    have hjl : j < xs.length := (List.getElem?_eq_some_iff.1 hv).1
    have hll : l < k := by rw [← hk cs (mem_of_get hv)]; exact (List.getElem?_eq_some_iff.1 hl).1
    obtain ⟨_, tt, us, h3, h4, h5⟩ := h2 (by omega)
    have hoff : off < us.length := by
      rw [h4, hj]
      calc j * k + l < j * k + k := by omega
        _ = (j + 1) * k := by rw [Nat.add_mul]; omega
        _ ≤ (γ i).2 * k := Nat.mul_le_mul_right _ (by omega)
    refine ⟨us[off], ?_, .d _ _ (h5 j l cs v _ hv hl (by rw [← hj]; simp [hoff]))⟩
    have hc : w.cell? ⟨(γ i).1, off, none⟩ = some us[off] := by rw [cell_of_block h3]; simp [hoff]
    simp [execOp, Instr.loadAt, Instr.sureAddr, hq, loadVar_one ha hc])

/-- A row of one-cell elements is written. -/
theorem O.storeA {x y : Operand} {i off : Nat} {xs : List (List D)} {v : D} {e : TypeId} (hx : ge t x = some (.box i off)) (hy : ge t y = some (.d v)) (hi : look i σ = some (.arr 1 xs)) (hlt : off < xs.length)
    (hs : ∀ w, (sizeOf e).run X.P w = .ok 1 w) (k : K t ((i, .arr 1 (xs.set off [v])) :: σ)) :
    OpJ X ⟨none, .store e x y, ty, pos, aft, g⟩ t σ K := by
  intro γ H a w s next Q' hk
  have hr := ge_sound s.tmp hx
  generalize hq : a.eval x = q at hr
  cases hr
  obtain ⟨hle, hk1, h2⟩ := s.mem.ent i _ hi
  obtain ⟨hH, tt, us, h3, h4, h5⟩ := h2 (by omega)
  have hrv := rep_d (ge_sound s.tmp hy)
  obtain ⟨h1c, hcells⟩ := repd_one hrv
  simp only [Nat.mul_one] at h4 h5
  obtain ⟨hw1, hw2, hw3⟩ := store_one (P := X.P) h3 (o := off) (by omega) h1c
  have hrun : (execOp a.eval ⟨none, .store e x y, ty, pos, aft, g⟩).run X.P w = .ok .skip (w.setCell ⟨(γ i).1, off, none⟩ (a.eval y)) := by
    simp [execOp, Instr.storeAt, Instr.sureAddr, hq, storeVar, hcells, hs, storeCells, add_lit, hw1]
  rw [semAt_of (by simp), hrun, Oper.uponIn_skip]
  refine hk γ H t _ _ _ ⟨s.defers, s.size, s.tmp, s.mem.turn (e := .arr 1 xs) (e' := .arr 1 (xs.set off [v])) hi (by show 0 < (γ i).2; omega) hH hw3 (fun h => h) ⟨by simpa using hle, fun cs hcs => ?_, fun _ => ⟨hH, tt, us.set off (a.eval y), hw2, by simpa using h4, ?_⟩⟩⟩ k
  · rcases List.mem_or_eq_of_mem_set hcs with h | h
    · exact hk1 cs h
    · subst h; rfl
  · intro j l cs b u ha hb hu
    simp only [Nat.mul_one] at hu
    rw [List.getElem?_set] at ha
    split at ha
    · next ej =>
      subst ej
      simp only [Option.some.injEq] at ha
      subst ha
      cases l with
      | zero =>
        simp only [List.getElem?_cons_zero, Option.some.injEq] at hb
        subst hb
        simp only [Nat.add_zero] at hu
        rw [List.getElem?_set, if_pos rfl, if_pos (by omega)] at hu
        simp only [Option.some.injEq] at hu
        subst hu; exact hrv
      | succ l => simp at hb
    · next ej =>
      have hl0 : l = 0 := by
        have := hk1 cs (mem_of_get ha)
        have := (List.getElem?_eq_some_iff.1 hb).1
        omega
      subst hl0
      simp only [Nat.add_zero] at hu
      rw [List.getElem?_set, if_neg (by omega)] at hu
      exact h5 j 0 cs b u ha hb (by simpa using hu)
end addr

/-! ### Results -/
theorem ret_tmp2 {X : Cx} {fn : Func} {t : T} {σ : Sg} {i j : Nat} {r q : AV} (hr : fn.results = #[.tmp i, .tmp j]) (hi : look i t = some r) (hj : look j t = some q) : RetIs X fn t σ (.tup [r, q]) := by
  intro γ H a w s
  obtain ⟨u, hu, h⟩ := s.tmp i r hi
  obtain ⟨v, hv, h'⟩ := s.tmp j q hj
  refine ⟨.tuple #[u, v], ?_, .tup _ [u, v] rfl ?_⟩
  · simp [results, hr, Array.getD_eq_getD_getElem?, hu, hv]
  · intro k a b ha hb
    match k with
    | 0 => simp at ha hb; subst ha; subst hb; exact h
    | 1 => simp at ha hb; subst ha; subst hb; exact h'
    | k + 2 => simp at ha
theorem ret_tmp3 {X : Cx} {fn : Func} {t : T} {σ : Sg} {i j l : Nat} {r q p : AV} (hr : fn.results = #[.tmp i, .tmp j, .tmp l]) (hi : look i t = some r) (hj : look j t = some q) (hl : look l t = some p) : RetIs X fn t σ (.tup [r, q, p]) := by
  intro γ H a w s
  obtain ⟨u, hu, h⟩ := s.tmp i r hi
  obtain ⟨v, hv, h'⟩ := s.tmp j q hj
  obtain ⟨x, hx, h''⟩ := s.tmp l p hl
  refine ⟨.tuple #[u, v, x], ?_, .tup _ [u, v, x] rfl ?_⟩
  · simp [results, hr, Array.getD_eq_getD_getElem?, hu, hv, hx]
  · intro k a b ha hb
    match k with
    | 0 => simp at ha hb; subst ha; subst hb; exact h
    | 1 => simp at ha hb; subst ha; subst hb; exact h'
    | 2 => simp at ha hb; subst ha; subst hb; exact h''
    | k + 3 => simp at ha
end Go.Sv
