/- Another view of a state; private rows handed back, made, published. -/
import Derived.Test.YthfemmcodfajaaaDoorFwJ
set_option linter.unusedVariables false
set_option linter.unusedSimpArgs false
namespace Go.Sv
open Go.RowKit

def SJ (X : Cx) (t : T) (σ : Sg) (t' : T) (σ' : Sg) : Prop :=
  ∀ γ H a w, St X.w0 X.H0 X.B X.N X.D γ H t σ a w → ∃ γ' H', St X.w0 X.H0 X.B X.N X.D γ' H' t' σ' a w

section
variable {X : Cx} {t t' : T} {σ σ' : Sg}
theorem WJ.shift {c : Code} {Q : Qt} (h : SJ X t σ t' σ') (k : WJ X c t' σ' Q) : WJ X c t σ Q := fun γ H a w s => let ⟨γ', H', s'⟩ := h γ H a w s; k γ' H' a w s'
theorem LJ.shift {all : Array Oper} {kk : Nat} {rest : List Oper} {Q : T → Sg → Prop} (h : SJ X t σ t' σ') (k : LJ X all kk rest t' σ' Q) : LJ X all kk rest t σ Q :=
  fun ha Q' hq γ H a w s => let ⟨γ', H', s'⟩ := h γ H a w s; k ha Q' hq γ' H' a w s'
theorem SJ.trans {t'' : T} {σ'' : Sg} (h : SJ X t σ t' σ') (k : SJ X t' σ' t'' σ'') : SJ X t σ t'' σ'' := fun γ H a w s => let ⟨γ', H', s'⟩ := h γ H a w s; k γ' H' a w s'
theorem SJ.wk (ht : Wk t' t) (hs : Wk σ' σ) : SJ X t σ t' σ' := fun γ H a w s => ⟨γ, H, s.defers, s.size, s.tmp.wk ht, s.mem.wk hs⟩
theorem SJ.recast (i : Nat) {x y : AV} (hi : look i t = some x) (h : ∀ γ H u, Rep γ H x u → Rep γ H y u) : SJ X t σ ((i, y) :: t) σ := fun γ H a w s => ⟨γ, H, s.defers, s.size, fun j b hj => by
  rw [look_cons] at hj
  split at hj
  · next e => subst e; simp only [Option.some.injEq] at hj; subst hj; obtain ⟨u, hu, r⟩ := s.tmp _ _ hi; exact ⟨u, hu, h γ H u r⟩
  · exact s.tmp j b hj, s.mem⟩

theorem rep_nil {γ : Ids} {H : HF} {k : Nat} {u : Value} (r : Rep γ H (.d (.v (.slice none 0 0))) u) : Rep γ H (.d (.sl k [])) u := by
  have := rep_v r
  subst this
  exact .d _ _ (.sl k [] none 0 0 0 (fun _ _ => undef) (by simp) (by simp) (by simp) (by simp) (by simp) (by simp))
theorem rep_nilF {γ : Ids} {H : HF} {k : Nat} {u : Value} (r : Rep γ H (.d (.v (.slice none 0 0))) u) : Rep γ H (.own .full k []) u := by
  have := rep_v r
  subst this
  exact .own .full k [] none 0 (.sl k [] none 0 0 0 (fun _ _ => undef) (by simp) (by simp) (by simp) (by simp) (by simp) (by simp)) rfl
theorem rep_own {γ : Ids} {H : HF} {o : Own} {k : Nat} {xs : List (List D)} {u : Value} (r : Rep γ H (.own o k xs) u) : Rep γ H (.d (.sl k xs)) u := by
  cases r with
  | own _ _ _ A c hr ho => exact .d _ _ hr

/-- The length of what is read is bounded. -/
theorem SJ.bound {c : Code} {Q : Qt} (i : Nat) {k : Nat} {xs : List (List D)} (hi : look i t = some (.d (.sl k xs))) (h : xs.length ≤ 9223372036854775807 → WJ X c t σ Q) : WJ X c t σ Q := fun γ H a w s => by
  obtain ⟨u, _, r⟩ := s.tmp _ _ hi
  exact h (repd_sl_len (rep_d r)).2 γ H a w s

theorem EntOk.hext {γ : Ids} {H H' : HF} {w : World} {i : Nat} {e : Ent} (h : EntOk γ H w i e) (hle : HLe H H') (hx : Real γ i e → ∀ o, H' (γ i).1 o = H (γ i).1 o) : EntOk γ H' w i e := by
  cases e with
  | gone => trivial
  | cells cs =>
    obtain ⟨h0, t, us, h1, h2, h3⟩ := h
    exact ⟨fun o => (hx trivial o).trans (h0 o), t, us, h1, h2, fun j a u x y => (h3 j a u x y).mono hle⟩
  | row k n =>
    refine ⟨h.1, fun hr => ?_⟩
    obtain ⟨h0, t, us, h1, h2⟩ := h.2 hr
    exact ⟨fun o ho => (hx hr o).trans (h0 o ho), t, us, h1, h2⟩
  | arr k xs =>
    refine ⟨h.1, h.2.1, fun hr => ?_⟩
    obtain ⟨h0, t, us, h1, h2, h3⟩ := h.2.2 hr
    exact ⟨fun o => (hx hr o).trans (h0 o), t, us, h1, h2, fun j l cs a u x y z => (h3 j l cs a u x y z).mono hle⟩
  | obj o => exact h

/-- **A private row becomes data.** -/
theorem SJ.pubA (d : Nat) {i k n : Nat} {xs : List (List D)} (hB : ∀ b, ¬ X.B b) (hd : look d t = some (.arr i k n)) (hi : look i σ = some (.arr k xs)) (hn : xs.length = n) (hlen : xs.length ≤ 9223372036854775807) :
    SJ X t σ ((d, .d (.sl k xs)) :: t) ((i, .gone) :: σ) := by
  intro γ H a w s
  obtain ⟨u, hu, r⟩ := s.tmp _ _ hd
  cases r with
  | arr _ _ _ A hncap hA =>
  obtain ⟨hle, hxk, hreal⟩ := s.mem.ent i _ hi
  subst hn
  by_cases hc0 : 0 < (γ i).2
  · have hA' := hA hc0
    subst hA'
    obtain ⟨hH, tt, us, h3, h4, h5⟩ := hreal hc0
    have hlt : xs.length * k ≤ us.length := by rw [h4]; exact Nat.mul_le_mul_right _ hle
    let H' : HF := fun b o => if b = (γ i).1 ∧ o < xs.length * k then us[o]? else H b o
    have hHle : HLe H H' := fun b o v hv => by
      show (if b = (γ i).1 ∧ o < xs.length * k then us[o]? else H b o) = some v
      split
      · next e => rw [e.1, hH] at hv; cases hv
      · exact hv
    have hrep : RepD H' (.sl k xs) (.slice (some ⟨(γ i).1, 0, none⟩) xs.length (γ i).2) := by
      refine .sl k xs _ _ (γ i).1 0 (fun j l => us.getD (j * k + l) undef) hxk hle hlen (fun _ => rfl) (fun j l hj hl => ?_) (fun j l cs a h6 h7 => ?_)
      · have hlt' : j * k + l < xs.length * k := by
          calc j * k + l < j * k + k := by omega
            _ = (j + 1) * k := by rw [Nat.add_mul]; omega
            _ ≤ xs.length * k := Nat.mul_le_mul_right _ (by omega)
        show (if (γ i).1 = (γ i).1 ∧ 0 + j * k + l < xs.length * k then us[0 + j * k + l]? else _) = _
        rw [if_pos ⟨rfl, by omega⟩, Nat.zero_add, List.getD_eq_getElem?_getD, List.getElem?_eq_getElem (by omega)]; rfl
      · have hlk : l < k := by rw [← hxk cs (mem_of_get h6)]; exact (List.getElem?_eq_some_iff.1 h7).1
        have hj : j < xs.length := (List.getElem?_eq_some_iff.1 h6).1
        have hlt' : j * k + l < us.length := by
          calc j * k + l < j * k + k := by omega
            _ = (j + 1) * k := by rw [Nat.add_mul]; omega
            _ ≤ xs.length * k := Nat.mul_le_mul_right _ (by omega)
            _ ≤ us.length := hlt
        rw [List.getD_eq_getElem?_getD, List.getElem?_eq_getElem hlt']
        exact (h5 j l cs a us[j * k + l] h6 h7 (by simp [hlt'])).mono hHle
    have hmem := s.mem.gone i
    refine ⟨γ, H', s.defers, s.size, fun j b hj => ?_, ⟨s.mem.keep, s.mem.hle.trans hHle, fun b o v hv => ?_, fun b o v hv => ?_, fun j e hj => ?_, hmem.fresh, hmem.apart⟩⟩
    · rw [look_cons] at hj
      split at hj
      · next e => subst e; simp only [Option.some.injEq] at hj; subst hj; exact ⟨_, hu, .d _ _ hrep⟩
      · obtain ⟨u, hu, r⟩ := s.tmp j b hj; exact ⟨u, hu, r.mono hHle⟩
    · by_cases e : b = (γ i).1 ∧ o < xs.length * k
      · refine .inr ?_
        rcases s.mem.fresh i _ hi (show 0 < (γ i).2 from hc0) with h | h
        · rw [e.1]; exact h
        · exact absurd h (hB _)
      · have hv' : H b o = some v := by simpa [H', e] using hv
        exact s.mem.hnew b o v hv'
    · by_cases e : b = (γ i).1 ∧ o < xs.length * k
      · have hv' : us[o]? = some v := by simpa [H', e] using hv
        rw [e.1, cell_of_block h3]; exact hv'
      · have hv' : H b o = some v := by simpa [H', e] using hv
        exact s.mem.hok b o v hv'
    · refine (hmem.ent j e hj).hext hHle fun hr o => ?_
      rw [look_cons] at hj
      split at hj
      · simp only [Option.some.injEq] at hj; subst hj; exact hr.elim
      · next hne =>
        have hb : (γ j).1 ≠ (γ i).1 := fun eb => hne (s.mem.apart j e i _ hj hi hr (show 0 < (γ i).2 from hc0) eb)
        show (if (γ j).1 = (γ i).1 ∧ o < xs.length * k then us[o]? else H (γ j).1 o) = _
        rw [if_neg (fun h => hb h.1)]
  · have hx0 : xs = [] := List.length_eq_zero_iff.1 (by omega)
    subst hx0
    have hmem := s.mem.gone i
    refine ⟨γ, H, s.defers, s.size, fun j b hj => ?_, hmem⟩
    rw [look_cons] at hj
    split at hj
    · next e => subst e; simp only [Option.some.injEq] at hj; subst hj
                exact ⟨_, hu, .d _ _ (.sl k [] A _ 0 0 (fun _ _ => undef) (by simp) (by simp) (by simp) (by simp) (by simp) (by simp))⟩
    · exact s.tmp j b hj
end

/-- What a callee hands back as private is taken over. -/
theorem Mem.adopt {w0 w w' : World} {H0 H H' : HF} {B : Nat → Prop} {γ γ' : Ids} {t : T} {σ σ' : Sg} {i j : Nat} {e : Ent} (h : Mem w0 H0 B γ H σ w) (k : Mem w H (fun _ => False) γ' H' σ' w') (hi : look i σ' = some e) (hf : isFresh j t σ = true)
    (he : EntOk (upd γ j (γ' i)) H' w' j e) (hre : Real (upd γ j (γ' i)) j e → Real γ' i e) : Mem w0 H0 B (upd γ j (γ' i)) H' ((j, e) :: σ) w' := by
  have hm := h.call k
  have hlt : ∀ l f, look l σ = some f → Real γ l f → (γ l).1 < w.heap.size := fun l f hl hr => (h.ent l f hl).lt hr
  have hge : Real γ' i e → w.heap.size ≤ (γ' i).1 := fun hr => (k.fresh i e hi hr).elim (fun x => x) (fun x => x.elim)
  refine ⟨hm.keep, hm.hle, hm.hnew, hm.hok, fun l f hl => ?_, fun l f hl hr => ?_, fun l f p f' hl hp hr hr' hlp => ?_⟩
  · rw [look_cons] at hl
    split at hl
    · next e1 => subst e1; simp only [Option.some.injEq] at hl; subst hl; exact he
    · next e1 => obtain ⟨h1, h2⟩ := fresh_s hf hl; exact (hm.ent l f hl).upd h1 h2
  · rw [look_cons] at hl
    split at hl
    · next e1 => subst e1; simp only [Option.some.injEq] at hl; subst hl; rw [upd_same]; exact .inl (Nat.le_trans h.keep.size (hge (hre hr)))
    · next e1 => rw [upd_other γ _ e1]; exact h.fresh l f hl ((real_upd e1).1 hr)
  · rw [look_cons] at hl hp
    split at hl <;> split at hp
    · next e1 e2 => exact e1.trans e2.symm
    · next e1 e2 => subst e1; simp only [Option.some.injEq] at hl; subst hl; rw [upd_same, upd_other γ _ e2] at hlp; have := hlt p f' hp ((real_upd e2).1 hr'); have := hge (hre hr); omega
    · next e1 e2 => subst e2; simp only [Option.some.injEq] at hp; subst hp; rw [upd_same, upd_other γ _ e1] at hlp; have := hlt l f hl ((real_upd e1).1 hr); have := hge (hre hr'); omega
    · next e1 e2 => rw [upd_other γ _ e1, upd_other γ _ e2] at hlp; exact h.apart l f p f' hl hp ((real_upd e1).1 hr) ((real_upd e2).1 hr') hlp

section
variable {X : Cx} {d : Option Nat} {ty : TypeId} {pos : String} {aft : Array Edge} {g : Option (Nat × Bool)} {t : T} {σ : Sg} {K : T → Sg → Prop}

/-- What a function that hands back a private row comes to. -/
abbrev FnA (P : Program) (f : FuncId) (avs : List AV) (k : Nat) (xs : List (List D)) : Prop := FnC P f avs fun r σ => ∃ i, r = .arr i k xs.length ∧ look i σ = some (.arr k xs)

theorem E.callA (j : Nat) {f : FuncId} {args : Array Operand} {tys : Array TypeId} {avs : List AV} {k : Nat} {xs : List (List D)} (hc : FnA X.P f avs k xs) (hok : callOk X.P f) (hN : dOk d X.N = true)
    (ha : geAll t args.toList = some avs) (hD : j ∉ X.D) (hf : isFresh j t σ = true) (kk : K (putT d (.arr j k xs.length) t) ((j, .arr k xs) :: σ)) :
    OpJ X ⟨d, .call { callee := .value (.func f), args := args, argTypes := tys }, ty, pos, aft, g⟩ t σ K := by
  intro γ H a w s next Q' hk
  have hx : (execOp a.eval ⟨d, .call { callee := .value (.func f), args := args, argTypes := tys }, ty, pos, aft, g⟩).run X.P w = .ok (.enter f (args.map a.eval)) w := by
    have := hok (args.map a.eval) w
    simpa [execOp, resolve, Act.eval, Deferred.ofValue, invoke] using this
  rw [semAt_of (by simp), hx, Oper.uponIn_enter]
  refine ⟨fun h => by simp [Fr] at h, ?_⟩
  have := hc X.ro γ H w (args.map a.eval).toList s.mem.hok (by have := congrArg List.length (geAll_map ha); simpa using this) (by
    have := ge_list s.tmp (geAll_map ha)
    simpa using this)
  simp only [Array.toArray_toList] at this
  refine (this.mono ?_)
  rintro e w' ⟨v, r, σ', γ', H', rfl, ⟨i, rfl, hi⟩, hr, hm⟩
  have he := hm.ent i _ hi
  have he' : EntOk (upd γ j (γ' i)) H' w' j (.arr k xs) := by simpa only [EntOk, upd_same] using he
  refine hk (upd γ j (γ' i)) H' _ _ _ w' ⟨?_, ?_, ((s.tmp.mono hm.hle).upd hf).put s.size hN ?_, s.mem.adopt hm hi hf he' (fun h => by simpa [Real, upd_same] using h)⟩ kk
  · rw [put_defers, s.defers]
    refine List.map_congr_left fun l hl => ?_
    have hne : l ≠ j := fun h => hD (h ▸ hl)
    rw [upd_other γ _ hne]
  · rw [put_size]; exact s.size
  · cases hr with
    | arr _ _ _ A h1 h2 =>
      have := Rep.arr (γ := upd γ j (γ' i)) (H := H') j k xs.length A
      rw [upd_same] at this
      exact this h1 h2

/-- **An empty slice literal that will be appended to.** -/
theorem E.mkA0 (j : Nat) {st el : TypeId} {k : Nat} {z : Value} (hN : dOk d X.N = true) (hu : X.P.underlying st = some (.slice el)) (hz : ∀ w, (sizeOf el).run X.P w = .ok k w) (hzv : ∀ w, (zeroValue el).run X.P w = .ok z w)
    (hD : j ∉ X.D) (hf : isFresh j t σ = true) (kk : K (putT d (.arr j k 0) t) ((j, .arr k []) :: σ)) : OpJ X ⟨d, .buildSlice st 0 #[], ty, pos, aft, g⟩ t σ K := by
  intro γ H a w s next Q' hk
  have hrun := slice_run (P := X.P) (w := w) (len := 0) (vs := []) (us' := []) hu hz hzv (by omega) (by simp [Instr.fill, Array.range])
  have hx : (execOp a.eval ⟨d, .buildSlice st 0 #[], ty, pos, aft, g⟩).run X.P w = .ok (.value (.slice (some ⟨w.heap.size, 0, none⟩) 0 0)) (w.alloc (.cells #[] el)) := by
    simp only [execOp, Sem.run_bind]
    have e : (#[] : Array (Nat × Operand)).map (fun (i, x) => (i, a.eval x)) = ([] : List (Nat × Value)).toArray := by simp
    rw [e, hrun]; rfl
  rw [semAt_of (by simp), hx, Oper.uponIn_value]
  refine hk (upd γ j (w.heap.size, 0)) H _ _ _ _ ⟨?_, ?_, (s.tmp.upd hf).put s.size hN ?_, s.mem.new (e := .arr k []) hf ⟨by simp, by simp, fun h => by rw [upd_same] at h; simp at h⟩⟩ kk
  · rw [put_defers, s.defers]
    refine List.map_congr_left fun l hl => ?_
    have hne : l ≠ j := fun h => hD (h ▸ hl)
    rw [upd_other γ _ hne]
  · rw [put_size]; exact s.size
  · have := Rep.arr (γ := upd γ j (w.heap.size, 0)) (H := H) j k 0 (some ⟨w.heap.size, 0, none⟩)
    rw [upd_same] at this
    exact this (Nat.le_refl _) (fun h => by simp at h)
end
theorem equalIn_nil {P : Program} {tt el : TypeId} {A : Option Addr} {l c : Nat} {w : World} (n : Nat) (hu : P.underlying tt = some (.slice el)) : (Op.equalIn (n + 1) tt (.slice A l c) (.slice none 0 0)).run P w = .ok A.isNone w := by
  cases A <;> simp [Op.equalIn, underlying, hu]
theorem equal_step {P : Program} {tt : TypeId} {x y : Value} {w : World} : (Op.equal tt x y).run P w = (Op.equalIn (9999 + 1) tt x y).run P w := rfl

section
variable {X : Cx} {d : Option Nat} {ty : TypeId} {pos : String} {aft : Array Edge} {g : Option (Nat × Bool)} {t : T} {σ : Sg} {K : T → Sg → Prop}
/-- **s == nil**: what it answers is not told by what s stands for; true only where it is empty. -/
theorem E.eqNil {tt yt el : TypeId} {x : Operand} {av : AV} {kk : Nat} {xs : List (List D)} (hN : dOk d X.N = true) (hx : ge t x = some av) (hl : elems av = some (kk, xs)) (hu : X.P.underlying tt = some (.slice el))
    (k : ∀ b : Bool, (b = true → xs = []) → K (putT d (.d (.v (.bool b))) t) σ) : OpJ X ⟨d, .binOp .eql tt x (.const (.slice none 0 0)) yt, ty, pos, aft, g⟩ t σ K := by
  intro γ H a w s next Q' hk
  have hr := rep_elems (ge_sound s.tmp hx) hl
  generalize hq : a.eval x = q at hr
  cases hr with
  | sl _ _ A c b o us h1 h2 h3 hA =>
  have h0 : A = none → xs = [] := fun e => by
    subst e
    by_cases h0 : 0 < xs.length
    · cases hA h0
    · exact List.length_eq_zero_iff.1 (by omega)
  have hy : a.eval (.const (.slice none 0 0)) = .slice none 0 0 := rfl
  have hrun : (execOp a.eval ⟨d, .binOp .eql tt x (.const (.slice none 0 0)) yt, ty, pos, aft, g⟩).run X.P w = .ok (.value (.bool A.isNone)) w := by
    have he : (Op.equal tt (.slice A xs.length c) (.slice none 0 0)).run X.P w = .ok A.isNone w := by
      rw [equal_step]; exact equalIn_nil 9999 hu
    simp only [execOp, hq, hy, eqGuard, binOp, Sem.run_bind, he]
    simp [he]
  rw [semAt_of (by simp), hrun, Oper.uponIn_value]
  refine hk γ H _ σ _ w ⟨?_, ?_, s.tmp.put s.size hN (.d _ _ (.v _ rfl)), s.mem⟩ (k A.isNone (fun h => h0 (by cases A with | none => rfl | some a => cases h)))
  · rw [put_defers]; exact s.defers
  · rw [put_size]; exact s.size

theorem SJ.nilA (d j k : Nat) (hd : look d t = some (.d (.v (.slice none 0 0)))) (hD : j ∉ X.D) (hf : isFresh j t σ = true) : SJ X t σ ((d, .arr j k 0) :: t) ((j, .arr k []) :: σ) := by
  intro γ H a w s
  have hm : Mem X.w0 X.H0 X.B (upd γ j (0, 0)) H ((j, .arr k []) :: σ) w := by
    refine ⟨s.mem.keep, s.mem.hle, s.mem.hnew, s.mem.hok, fun l f hl => ?_, fun l f hl hr => ?_, fun l f p f' hl hp hr hr' hlp => ?_⟩
    · rw [look_cons] at hl
      split at hl
      · next e1 => subst e1; simp only [Option.some.injEq] at hl; subst hl; exact ⟨by simp, by simp, fun h => by rw [upd_same] at h; simp at h⟩
      · next e1 => obtain ⟨h1, h2⟩ := fresh_s hf hl; exact (s.mem.ent l f hl).upd h1 h2
    · rw [look_cons] at hl
      split at hl
      · next e1 => subst e1; simp only [Option.some.injEq] at hl; subst hl; simp [Real, upd_same] at hr
      · next e1 => rw [upd_other γ _ e1]; exact s.mem.fresh l f hl ((real_upd e1).1 hr)
    · rw [look_cons] at hl hp
      split at hl
      · next e1 => subst e1; simp only [Option.some.injEq] at hl; subst hl; simp [Real, upd_same] at hr
      · next e1 =>
        split at hp
        · next e2 => subst e2; simp only [Option.some.injEq] at hp; subst hp; simp [Real, upd_same] at hr'
        · next e2 => rw [upd_other γ _ e1, upd_other γ _ e2] at hlp; exact s.mem.apart l f p f' hl hp ((real_upd e1).1 hr) ((real_upd e2).1 hr') hlp
  refine ⟨upd γ j (0, 0), H, ?_, s.size, fun i b hi => ?_, hm⟩
  · rw [s.defers]
    refine List.map_congr_left fun l hl => ?_
    have hne : l ≠ j := fun h => hD (h ▸ hl)
    rw [upd_other γ _ hne]
  · rw [look_cons] at hi
    split at hi
    · next e =>
      subst e; simp only [Option.some.injEq] at hi; subst hi
      obtain ⟨u, hu, r⟩ := s.tmp _ _ hd
      have := rep_v r
      subst this
      refine ⟨_, hu, ?_⟩
      have := Rep.arr (γ := upd γ j (0, 0)) (H := H) j k 0 none
      rw [upd_same] at this
      exact this (Nat.le_refl _) (fun h => by simp at h)
    · exact (s.tmp.upd hf) i b hi
end


/-- A loop, by what varies: the states at its rounds' heads. -/
theorem WJ.loopW {X : Cx} {c : Code} {t : T} {σ : Sg} {Q : Qt} {V : Type} (T0 : V → T) (S0 : V → Sg) (μ : V → Nat) (I : V → Prop) (v0 : V) (h0 : I v0) (ht : Wk (T0 v0) t) (hs : Wk (S0 v0) σ)
    (round : ∀ v, I v → WJ X c (T0 v) (S0 v) (Thn (fun t σ => ∃ v', I v' ∧ μ v' < μ v ∧ Wk (T0 v') t ∧ Wk (S0 v') σ) Q)) : WJ X (.loop c) t σ Q := by
  refine WJ.loop (fun n t σ => ∃ v, I v ∧ n = μ v ∧ Wk (T0 v) t ∧ Wk (S0 v) σ) (μ v0) ⟨v0, h0, rfl, ht, hs⟩ ?_
  rintro n t σ ⟨v, hv, rfl, ht, hs⟩
  refine WJ.wk ht hs ((round v hv).mono fun e t σ q => ?_)
  cases e with
  | normal => obtain ⟨v', h1, h2, h3, h4⟩ := q; exact ⟨μ v', h2, v', h1, rfl, h3, h4⟩
  | exit id => exact q
  | goto l => exact q
  | ret => exact q
  | panic ch => exact q
  | outgrown => exact q

def junkId (i : Nat) (t : T) : T := t.map fun p => (p.1, match has2 i p.2 with | true => .junk | false => p.2)
def delK (i : Nat) (σ : Sg) : Sg := σ.filter fun p => !Nat.beq p.1 i

theorem look_junk {i : Nat} : ∀ {t : T} {x : Nat} {a : AV}, look x (junkId i t) = some a → a = .junk ∧ (∃ b, look x t = some b) ∨ look x t = some a ∧ has2 i a = false
  | [], x, a, h => by simp [junkId, look] at h
  | (y, b) :: t, x, a, h => by
    simp only [junkId, List.map_cons] at h
    rw [look_cons] at h
    rw [look_cons]
    split at h
    · next e =>
      rw [if_pos e]
      simp only [Option.some.injEq] at h
      cases hb : has2 i b with
      | true => rw [hb] at h; exact .inl ⟨h.symm, b, rfl⟩
      | false => rw [hb] at h; simp only at h; subst h; exact .inr ⟨rfl, hb⟩
    · next e => rw [if_neg e]; exact look_junk h
theorem look_delK {i : Nat} : ∀ {σ : Sg} {x : Nat} {e : Ent}, look x (delK i σ) = some e → x ≠ i ∧ look x σ = some e
  | [], x, e, h => by simp [delK, look] at h
  | (y, f) :: σ, x, e, h => by
    simp only [delK, List.filter_cons] at h
    cases hy : Nat.beq y i with
    | true =>
      rw [hy] at h
      simp only [Bool.not_true, Bool.false_eq_true, if_false] at h
      obtain ⟨h1, h2⟩ := look_delK (σ := σ) h
      rw [look_cons, if_neg (fun e' => h1 (by rw [e']; exact Nat.eq_of_beq_eq_true hy))]
      exact ⟨h1, h2⟩
    | false =>
      rw [hy] at h
      simp only [Bool.not_false, if_true] at h
      rw [look_cons] at h
      rw [look_cons]
      split at h
      · next e' =>
        rw [if_pos e']
        exact ⟨fun e'' => by rw [← e', e''] at hy; simp at hy, h⟩
      · next e' => rw [if_neg e']; exact look_delK (σ := σ) h

/-- A private row gets back the id that it had. -/
theorem SJ.back {X : Cx} {t : T} {σ : Sg} {d j i k n : Nat} {xs : List (List D)} (hj : j ∉ X.D) (hD : i ∉ X.D) (hji : j ≠ i) (hf : isFresh i (junkId i t) (delK i σ) = true) :
    SJ X (putT (some d) (.arr j k n) t) ((j, .arr k xs) :: (i, .gone) :: σ) (putT (some d) (.arr i k n) (junkId i t)) ((i, .arr k xs) :: (j, .gone) :: delK i σ) := by
  intro γ H a w s
  have hw : Wk ((j, .arr k xs) :: delK i σ) ((j, .arr k xs) :: (i, .gone) :: σ) := by
    intro l e hl
    rw [look_cons] at hl
    rw [look_cons]
    split at hl
    · next e1 => rw [if_pos e1]; exact hl
    · next e1 =>
      obtain ⟨h1, h2⟩ := look_delK hl
      rw [if_neg e1, look_cons, if_neg h1]; exact h2
  have hm := (s.mem.wk hw).rename hf hji rfl
  refine ⟨upd γ i (γ j), H, ?_, s.size, fun x b hb => ?_, hm⟩
  · rw [s.defers]
    refine List.map_congr_left fun l hl => ?_
    have hne : l ≠ i := fun h => hD (h ▸ hl)
    rw [upd_other γ _ hne]
  · simp only [putT] at hb
    rw [look_cons] at hb
    split at hb
    · next e =>
      subst e
      simp only [Option.some.injEq] at hb; subst hb
      obtain ⟨u, hu, r⟩ := s.tmp x (.arr j k n) (by simp [putT, look_cons])
      refine ⟨u, hu, ?_⟩
      cases r with
      | arr _ _ _ A h1 h2 =>
        have := Rep.arr (γ := upd γ i (γ j)) (H := H) i k n A
        rw [upd_same] at this
        exact this h1 h2
    · next e =>
      rcases look_junk hb with ⟨rfl, b', hb'⟩ | ⟨h1, h2⟩
      · obtain ⟨u, hu, _⟩ := s.tmp x b' (by simp only [putT, look_cons, if_neg e]; exact hb')
        exact ⟨u, hu, .junk u⟩
      · obtain ⟨u, hu, r⟩ := s.tmp x b (by simp only [putT, look_cons, if_neg e]; exact h1)
        exact ⟨u, hu, rep_upd r h2⟩

theorem QJ.view {X : Cx} {o : Oper} {t : T} {σ : Sg} {V V' : AV} (h : QJ X o t σ V) (hv : ∀ γ H u, Rep γ H V u → Rep γ H V' u) : QJ X o t σ V' :=
  fun γ H a w so sm next Q' hk => h γ H a w so sm next Q' fun v γ' σ' H' w' hm hr => hk v γ' σ' H' w' hm (hv _ _ _ hr)

/-- **A slice literal, as data.** -/
theorem O.mkS {X : Cx} {d : Option Nat} {ty : TypeId} {pos : String} {aft : Array Edge} {g : Option (Nat × Bool)} {t : T} {σ : Sg} {st el : TypeId} {len k : Nat} {parts : Array (Nat × Operand)} {z : Value} {ps : List (Nat × AV)} {cs : List AV} {ds : List D} {xs : List (List D)}
    (hp : geParts t parts.toList = some ps) (hu : X.P.underlying st = some (.slice el)) (hz : ∀ w, (sizeOf el).run X.P w = .ok k w) (hzv : ∀ w, (zeroValue el).run X.P w = .ok z w) (hsm : len * k ≤ 16777216) (hle0 : len ≤ 16777216)
    (hf : fillAV (fun i => some (i * k, k)) (zeroAV z.cells.toList (len * k)) ps = some cs) (hd : dAll cs = some ds) (hl : ds.length = len * k) (hx : chunk k len ds = xs) :
    QJ X ⟨d, .buildSlice st len parts, ty, pos, aft, g⟩ t σ (.d (.sl k xs)) :=
  QJ.view (O.mkD hp hu hz hzv hsm hle0 hf hd hl) fun γ H u r => by rw [hx] at r; exact rep_own r

end Go.Sv
