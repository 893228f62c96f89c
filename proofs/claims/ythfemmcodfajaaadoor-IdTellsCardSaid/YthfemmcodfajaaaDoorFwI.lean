/- Rows appended to; literals. -/
import Derived.Test.YthfemmcodfajaaaDoorFwH
set_option linter.unusedVariables false
set_option linter.unusedSimpArgs false
namespace Go.Sv
open Go.RowKit

theorem Mem.gone {w0 w : World} {H0 H : HF} {B : Nat → Prop} {γ : Ids} {σ : Sg} (h : Mem w0 H0 B γ H σ w) (i : Nat) : Mem w0 H0 B γ H ((i, .gone) :: σ) w := by
  refine ⟨h.keep, h.hle, h.hnew, h.hok, fun j e hj => ?_, fun j e hj hr => ?_, fun j e l e' hj hl hr hr' => ?_⟩
  · rw [look_cons] at hj; split at hj
    · simp only [Option.some.injEq] at hj; subst hj; trivial
    · exact h.ent j e hj
  · rw [look_cons] at hj; split at hj
    · simp only [Option.some.injEq] at hj; subst hj; exact hr.elim
    · exact h.fresh j e hj hr
  · rw [look_cons] at hj hl; split at hj
    · simp only [Option.some.injEq] at hj; subst hj; exact hr.elim
    · split at hl
      · simp only [Option.some.injEq] at hl; subst hl; exact hr'.elim
      · exact h.apart j e l e' hj hl hr hr'

theorem fresh_gone {i j : Nat} {t : T} {σ : Sg} (h : isFresh j t σ = true) (hne : i ≠ j) : isFresh j t ((i, .gone) :: σ) = true := by
  simp only [isFresh, Bool.and_eq_true, List.all_cons, entHas] at h ⊢
  refine ⟨h.1, ?_, h.2⟩
  have : Nat.beq j i = false := by rw [← Bool.not_eq_true, Nat.beq_eq]; exact fun e => hne e.symm
  simp [this]

/-- A private thing gets another id. -/
theorem Mem.rename {w0 w : World} {H0 H : HF} {B : Nat → Prop} {γ : Ids} {t : T} {σ : Sg} {i j : Nat} {e : Ent} (h : Mem w0 H0 B γ H ((i, e) :: σ) w) (hf : isFresh j t σ = true) (hij : i ≠ j) (he : entHas j e = false) :
    Mem w0 H0 B (upd γ j (γ i)) H ((j, e) :: (i, .gone) :: σ) w := by
  have hi : look i ((i, e) :: σ) = some e := by rw [look_cons, if_pos rfl]
  have hre : Real (upd γ j (γ i)) j e ↔ Real γ i e := by cases e <;> simp [Real, upd_same]
  have hee : EntOk (upd γ j (γ i)) H w j e := by
    have h0 := h.ent i e hi
    cases e with
    | gone => trivial
    | cells cs =>
      simp only [EntOk, upd_same] at h0 ⊢
      obtain ⟨h1, t, us, h2, h3, h4⟩ := h0
      exact ⟨h1, t, us, h2, h3, fun l a u x y => rep_upd (h4 l a u x y) (any_get he x)⟩
    | row k n => simpa only [EntOk, upd_same] using h0
    | arr k xs => simpa only [EntOk, upd_same] using h0
    | obj o => simpa only [EntOk, upd_same] using h0
  refine ⟨h.keep, h.hle, h.hnew, h.hok, fun l f hl => ?_, fun l f hl hr => ?_, fun l f p f' hl hp hr hr' => ?_⟩
  · rw [look_cons] at hl
    split at hl
    · next e1 => subst e1; simp only [Option.some.injEq] at hl; subst hl; exact hee
    · next e1 =>
      rw [look_cons] at hl
      split at hl
      · simp only [Option.some.injEq] at hl; subst hl; trivial
      · next e2 =>
        obtain ⟨h1, h2⟩ := fresh_s hf hl
        exact (h.ent l f (by rw [look_cons, if_neg e2]; exact hl)).upd h1 h2
  · rw [look_cons] at hl
    split at hl
    · next e1 => subst e1; simp only [Option.some.injEq] at hl; subst hl; rw [upd_same]; exact h.fresh i e hi (hre.1 hr)
    · next e1 =>
      rw [look_cons] at hl
      split at hl
      · simp only [Option.some.injEq] at hl; subst hl; exact hr.elim
      · next e2 => rw [upd_other γ _ e1]; exact h.fresh l f (by rw [look_cons, if_neg e2]; exact hl) ((real_upd e1).1 hr)
  · have key : ∀ l f, look l ((j, e) :: (i, .gone) :: σ) = some f → Real (upd γ j (γ i)) l f → ∃ l' f', look l' ((i, e) :: σ) = some f' ∧ Real γ l' f' ∧ γ l' = (upd γ j (γ i)) l ∧ (l' = i → l = j) ∧ (l' ≠ i → l = l') := by
      clear hl hr hp hr'
      intro l f hl hr
      rw [look_cons] at hl
      split at hl
      · next e1 => subst e1; injection hl with hl; subst hl; exact ⟨i, e, hi, hre.1 hr, by rw [upd_same], fun _ => rfl, fun h => absurd rfl h⟩
      · next e1 =>
        rw [look_cons] at hl
        split at hl
        · simp only [Option.some.injEq] at hl; subst hl; exact hr.elim
        · next e2 => exact ⟨l, f, by rw [look_cons, if_neg e2]; exact hl, (real_upd e1).1 hr, by rw [upd_other γ _ e1], fun h => absurd h e2, fun _ => rfl⟩
    intro hlp
    obtain ⟨l', g, hl1, hl2, hl3, hl4, hl5⟩ := key l f hl hr
    obtain ⟨p', g', hp1, hp2, hp3, hp4, hp5⟩ := key p f' hp hr'
    have hlp' : l' = p' := h.apart l' g p' g' hl1 hp1 hl2 hp2 (by rw [hl3, hp3]; exact hlp)
    subst hlp'
    by_cases e1 : l' = i
    · rw [hl4 e1, hp4 e1]
    · rw [hl5 e1, hp5 e1]

theorem setL_get {α : Type} : ∀ (vs us : List α) (p j : Nat), p + vs.length ≤ us.length → (setL us p vs)[j]? = if p ≤ j ∧ j < p + vs.length then vs[j - p]? else us[j]?
  | [], us, p, j, _ => by simp only [setL, List.length_nil, Nat.add_zero]; rw [if_neg (by omega)]
  | v :: vs, us, p, j, h => by
    simp only [List.length_cons] at h
    simp only [setL]
    rw [setL_get vs (us.set p v) (p + 1) j (by simp; omega)]
    by_cases h1 : p + 1 ≤ j ∧ j < p + 1 + vs.length
    · rw [if_pos h1, if_pos (by simp; omega)]
      rw [show j - p = (j - (p + 1)) + 1 from by omega]; simp
    · rw [if_neg h1, List.getElem?_set]
      by_cases h2 : p = j
      · subst h2; rw [if_pos rfl, if_pos (by omega), if_pos (by simp)]; simp
      · rw [if_neg h2, if_neg (by simp; omega)]

section append
variable {X : Cx} {d : Option Nat} {ty : TypeId} {pos : String} {aft : Array Edge} {g : Option (Nat × Bool)} {t : T} {σ : Sg} {K : T → Sg → Prop}

theorem lenOf_sl {P : Program} {w : World} {A : Option Addr} {n c : Nat} : (Builtin.lenOf (.slice A n c)).run P w = .ok n w := rfl

/-- The elements of a row that is appended to. -/
theorem arr_snoc {R : D → Value → Prop} {k : Nat} {xs ys : List (List D)} {us vs us' : List Value} (hxk : ∀ cs, cs ∈ xs → cs.length = k) (hyk : ∀ cs, cs ∈ ys → cs.length = k)
    (h1 : ∀ (j l : Nat) (cs : List D) (a : D) (u : Value), xs[j]? = some cs → cs[l]? = some a → us[j * k + l]? = some u → R a u)
    (h2 : ∀ (j l : Nat) (cs : List D) (a : D) (u : Value), ys[j]? = some cs → cs[l]? = some a → vs[j * k + l]? = some u → R a u)
    (he1 : ∀ p, p < xs.length * k → us'[p]? = us[p]?) (he2 : ∀ p, p < ys.length * k → us'[xs.length * k + p]? = vs[p]?) :
    ∀ (j l : Nat) (cs : List D) (a : D) (u : Value), (xs ++ ys)[j]? = some cs → cs[l]? = some a → us'[j * k + l]? = some u → R a u := by
  intro j l cs a u hj hl hu
  have mul_lt : ∀ {n j l : Nat}, j < n → l < k → j * k + l < n * k := fun {n j l} h h' => by
    calc j * k + l < j * k + k := by omega
      _ = (j + 1) * k := by rw [Nat.add_mul]; omega
      _ ≤ n * k := Nat.mul_le_mul_right _ (by omega)
  by_cases hx : j < xs.length
  · rw [List.getElem?_append_left hx] at hj
    have hlk : l < k := by rw [← hxk cs (mem_of_get hj)]; exact (List.getElem?_eq_some_iff.1 hl).1
    rw [he1 _ (mul_lt hx hlk)] at hu
    exact h1 j l cs a u hj hl hu
  · rw [List.getElem?_append_right (by omega)] at hj
    have hlk : l < k := by rw [← hyk cs (mem_of_get hj)]; exact (List.getElem?_eq_some_iff.1 hl).1
    have hjy : j - xs.length < ys.length := (List.getElem?_eq_some_iff.1 hj).1
    have e : j * k + l = xs.length * k + ((j - xs.length) * k + l) := by
      rw [← Nat.add_assoc, ← Nat.add_mul, show xs.length + (j - xs.length) = j from by omega]
    rw [e, he2 _ (mul_lt hjy hlk)] at hu
    exact h2 _ l cs a u hj hl hu

/-- **append onto a private row.** -/
theorem E.appendA (j : Nat) {x y : Operand} {st xt el : TypeId} {i k n bytes : Nat} {z : Value} {xs ys : List (List D)} {av : AV} (hN : dOk d X.N = true) (hx : ge t x = some (.arr i k n)) (hy : ge t y = some av) (hi : look i σ = some (.arr k xs)) (hn : xs.length = n) (hel : elems av = some (k, ys))
    (hu : X.P.underlying st = some (.slice el)) (hxu : X.P.underlying xt = some (.slice el)) (hz : ∀ w, (sizeOf el).run X.P w = .ok k w) (hzv : ∀ w, (zeroValue el).run X.P w = .ok z w) (hzl : z.cells.size = k)
    (hb : ∀ w, ((fun i : TypeInfo => i.bytes) <$> typeInfo el).run X.P w = .ok bytes w) (hb0 : bytes ≠ 0) (hbytes : (3 * (n + ys.length) + 4096) * bytes ≤ 281474976710656) (hD : j ∉ X.D) (hf : isFresh j t σ = true)
    (kk : K (putT d (.arr j k (n + ys.length)) t) ((j, .arr k (xs ++ ys)) :: (i, .gone) :: σ)) :
    OpJ X ⟨d, .call { callee := .builtin .append, args := #[x, y], argTypes := #[st, xt] }, ty, pos, aft, g⟩ t σ K := by
  intro γ H a w s next Q' hk
  have hr := ge_sound s.tmp hx
  generalize hq : a.eval x = q at hr
  cases hr with
  | arr _ _ _ A hncap hA =>
  have hry := rep_elems (ge_sound s.tmp hy) hel
  obtain ⟨hyk, hylen⟩ := repd_sl_len hry
  obtain ⟨B, cy, vs, hqy, hfc, hvl, hvone, hvrep⟩ := repd_flat (P := X.P) hry
  obtain ⟨hle, hxk, hreal⟩ := s.mem.ent i _ hi
  have hji : j ≠ i := (fresh_s hf hi).1.symm
  have hexec : ∀ r : Result Value, (Builtin.append_ #[st, xt] ty #[.slice A n (γ i).2, a.eval y]).run X.P w = r → (execOp a.eval ⟨d, .call { callee := .builtin .append, args := #[x, y], argTypes := #[st, xt] }, ty, pos, aft, g⟩).run X.P w =
      r.andThen fun v w => .ok (.value v) w := fun r h => by
    simp only [execOp, resolve, invoke, builtin, List.map_toArray, List.map_cons, List.map_nil, Sem.run_bind, Sem.run_pure, Result.andThen_ok, hq, h]
  subst hn
  by_cases hroom : xs.length + ys.length ≤ (γ i).2
  · -- there is room
    have hrun := append_room (P := X.P) (w := w) (ty := ty) (A := A) (n := xs.length) (c := (γ i).2) hu hxu hz (fun w => by rw [hqy]; exact lenOf_sl) (hfc w s.mem.hok) hroom
    by_cases hc0 : 0 < (γ i).2
    · have hA' := hA hc0
      subst hA'
      obtain ⟨hH, tt, us, h3, h4, h5⟩ := hreal hc0
      have hfit : xs.length * k + 0 + vs.length ≤ us.length := by
        rw [h4, hvl, Nat.add_zero, ← Nat.add_mul]; exact Nat.mul_le_mul_right _ hroom
      obtain ⟨w', hw1, hw2, hw3⟩ := store_run (P := X.P) vs w us (xs.length * k) 0 h3 hfit hvone
      simp only [add_lit, Nat.zero_add, hw1, Result.andThen_ok] at hrun
      rw [semAt_of (by simp), hexec _ hrun, Result.andThen_ok, Oper.uponIn_value]
      simp only [Nat.add_zero] at hw2 hfit
      have hm1 : Mem X.w0 X.H0 X.B γ H ((i, .arr k (xs ++ ys)) :: σ) w' := s.mem.turn (e := .arr k xs) (e' := .arr k (xs ++ ys)) hi hc0 hH hw3 (fun h => h)
        ⟨by rw [List.length_append]; exact hroom, fun cs hcs => by rcases List.mem_append.1 hcs with h | h; exact hxk cs h; exact hyk cs h, fun _ => ⟨hH, tt, _, hw2, by rw [setL_length]; exact h4,
          arr_snoc hxk hyk h5 hvrep (fun p hp => by rw [setL_get _ _ _ _ hfit, if_neg (by omega)]) (fun p hp => by rw [setL_get _ _ _ _ hfit, if_pos (by omega)]; congr 1; omega)⟩⟩
      have hm2 := hm1.rename hf hji.symm rfl
      refine hk _ H _ _ _ w' ⟨?_, ?_, (s.tmp.upd hf).put s.size hN ?_, hm2⟩ kk
      · rw [put_defers, s.defers]
        refine List.map_congr_left fun l hl => ?_
        have hne : l ≠ j := fun h => hD (h ▸ hl)
        rw [upd_other γ _ hne]
      · rw [put_size]; exact s.size
      · have := Rep.arr (γ := upd γ j (γ i)) (H := H) j k (xs.length + ys.length) (some ⟨(γ i).1, 0, none⟩)
        rw [upd_same] at this
        exact this hroom (fun _ => rfl)
    · -- nothing is appended to nothing
      have hx0 : xs.length = 0 := by omega
      have hy0 : ys.length = 0 := by omega
      have hx0' : xs = [] := List.length_eq_zero_iff.1 hx0
      have hy0' : ys = [] := List.length_eq_zero_iff.1 hy0
      subst hx0'; subst hy0'
      have hv0 : vs = [] := List.length_eq_zero_iff.1 (by rw [hvl]; simp)
      subst hv0
      have hrun' : (Builtin.append_ #[st, xt] ty #[.slice A 0 (γ i).2, a.eval y]).run X.P w = .ok (.slice A 0 (γ i).2) w := by
        simp only [List.length_nil] at hrun
        rw [hrun]; cases A <;> simp [storeCells]
      rw [semAt_of (by simp), hexec _ hrun', Result.andThen_ok, Oper.uponIn_value]
      have hm1 : Mem X.w0 X.H0 X.B γ H ((i, .arr k []) :: σ) w := s.mem.wk (Wk.cons hi (Wk.refl σ))
      refine hk _ H _ _ _ w ⟨?_, ?_, (s.tmp.upd hf).put s.size hN ?_, hm1.rename hf hji.symm rfl⟩ kk
      · rw [put_defers, s.defers]
        refine List.map_congr_left fun l hl => ?_
        have hne : l ≠ j := fun h => hD (h ▸ hl)
        rw [upd_other γ _ hne]
      · rw [put_size]; exact s.size
      · have := Rep.arr (γ := upd γ j (γ i)) (H := H) j k 0 A
        rw [upd_same] at this
        exact this (Nat.zero_le _) hA
  · -- a new array
    have hs : ∃ us : List Value, us.length = xs.length * k ∧ (∀ w' : World, w'.heap = w.heap → (Builtin.firstCells k xs.length (.slice A xs.length (γ i).2)).run X.P w' = .ok us.toArray w') ∧
        ∀ (j l : Nat) (cs : List D) (a : D) (u : Value), xs[j]? = some cs → cs[l]? = some a → us[j * k + l]? = some u → RepD H a u := by
      by_cases hc0 : 0 < (γ i).2
      · have hA' := hA hc0
        subst hA'
        obtain ⟨hH, tt, us, h3, h4, h5⟩ := hreal hc0
        have hlt : xs.length * k ≤ us.length := by rw [h4]; exact Nat.mul_le_mul_right _ hle
        refine ⟨us.take (xs.length * k), by simp; omega, fun w' hw' => ?_, fun j l cs a u hj hl hu => ?_⟩
        · have := load_cells (P := X.P) (w := w') (b := (γ i).1) (vs := fun p => us.getD p undef) (xs.length * k) 0 0 #[] (fun p hp => by
            have h6 : w'.heap[(γ i).1]? = some (.cells us.toArray tt (0, 0)) := by rw [hw']; exact h3
            rw [cell_of_block h6]; simp [List.getElem?_eq_getElem (show p < us.length by omega)])
          simp only [Builtin.firstCells, loadCells]
          rw [this]
          congr 1
          apply Array.toList_inj.1
          simp only [List.nil_append, List.append_toArray, List.toList_toArray, Array.toList_append]
          apply List.ext_getElem?
          intro p
          simp only [List.getElem?_map, List.getElem?_take]
          by_cases hp : p < xs.length * k
          · rw [if_pos hp, List.getElem?_range' (by omega)]
            simp [List.getElem?_eq_getElem (show p < us.length by omega)]
          · rw [if_neg hp, List.getElem?_eq_none (by simp; omega)]; rfl
        · rw [List.getElem?_take] at hu
          split at hu
          · exact h5 j l cs a u hj hl hu
          · cases hu
      · have hx0' : xs = [] := List.length_eq_zero_iff.1 (by omega)
        subst hx0'
        refine ⟨[], by simp, fun w' _ => ?_, by simp⟩
        cases A <;> simp [Builtin.firstCells, loadCells, loadCellsFrom]
    obtain ⟨us, hul, hus, hurep⟩ := hs
    have hfc' : ∀ w' : World, w'.heap = w.heap → (Builtin.firstCells k ys.length (a.eval y)).run X.P w' = .ok vs.toArray w' := fun w' hw' => hfc w' fun b o v h => by
      have := s.mem.hok b o v h
      simp only [World.cell?, hw'] at this ⊢; exact this
    obtain ⟨cap, hcap, hrun⟩ := append_grow (P := X.P) (w := w) (ty := ty) (A := A) (n := xs.length) (c := (γ i).2) (us := us) (vs := vs) hu hxu hz hzv hb (fun w => by rw [hqy]; exact lenOf_sl) hfc' hus (by omega) hbytes hb0
    rw [semAt_of (by simp), hexec _ hrun, Result.andThen_ok, Oper.uponIn_value]
    have hgone := s.mem.drew.gone i
    have hzc : (Builtin.zeroCells z.cells (cap - (xs.length + ys.length))).toList.length = (cap - (xs.length + ys.length)) * k := by
      simp [Builtin.zeroCells, hzl]
    have hm2 := hgone.new (t := t) (e := .arr k (xs ++ ys)) (o := .cells (us ++ vs ++ (Builtin.zeroCells z.cells (cap - (xs.length + ys.length))).toList).toArray el) (c := cap) (fresh_gone hf hji.symm)
      ⟨by rw [upd_same, List.length_append]; exact hcap, fun cs hcs => by rcases List.mem_append.1 hcs with h | h; exact hxk cs h; exact hyk cs h, fun _ => by
        rw [upd_same]
        refine ⟨fun o => h_none (w := w.drew) hgone.hok o, el, _, World.alloc_heap_new _ _, ?_, ?_⟩
        · rw [List.length_append, List.length_append, hzc, hul, hvl, ← Nat.add_mul, ← Nat.add_mul]
          congr 1; omega
        · refine arr_snoc hxk hyk hurep hvrep (fun p hp => ?_) (fun p hp => ?_)
          · rw [List.append_assoc, List.getElem?_append_left (by omega)]
          · rw [List.append_assoc, List.getElem?_append_right (by omega), hul, show xs.length * k + p - xs.length * k = p from by omega, List.getElem?_append_left (by omega)]⟩
    refine hk _ H _ _ _ _ ⟨?_, ?_, (s.tmp.upd hf).put s.size hN ?_, hm2⟩ kk
    · rw [put_defers, s.defers]
      refine List.map_congr_left fun l hl => ?_
      have hne : l ≠ j := fun h => hD (h ▸ hl)
      rw [upd_other γ _ hne]
    · rw [put_size]; exact s.size
    · have := Rep.arr (γ := upd γ j (w.drew.heap.size, cap)) (H := H) j k (xs.length + ys.length) (some ⟨w.drew.heap.size, 0, none⟩)
      rw [upd_same] at this
      exact this hcap (fun _ => rfl)
end append

end Go.Sv
