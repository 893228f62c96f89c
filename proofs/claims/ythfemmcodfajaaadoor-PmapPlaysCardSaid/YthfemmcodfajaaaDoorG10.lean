/- What is reckoned is what an operation yields: the rest; literals. -/
import Derived.Test.YthfemmcodfajaaaDoorG9
set_option linter.unusedVariables false
set_option linter.unusedSimpArgs false
namespace Go.Gv
open Go.RowKit

section
variable {X : Cx} {d : Option Nat} {ty : TypeId} {pos : String} {aft : Array Edge} {g : Option (Nat × Bool)} {t : T} {σ : Sg} {K : AV → Prop} {F : Prop}

theorem rep_two {γ : Ids} {H : HF} {a b : AV} {u v : Value} (h : Rep γ H a u) (k : Rep γ H b v) : Rep γ H (.tup [a, b]) (.tuple #[u, v]) :=
  .tup [a, b] [u, v] rfl fun j x y hx hy => by
    match j with
    | 0 => simp at hx hy; subst hx; subst hy; exact h
    | 1 => simp at hx hy; subst hx; subst hy; exact k
    | j + 2 => simp at hx
theorem rep_bool {γ : Ids} {H : HF} {b : Bool} : Rep γ H (.d (.v (.bool b))) (.bool b) := .d _ _ (.v _ rfl)
theorem rep_map_d {γ : Ids} {H : HF} {cs : List D} {us : List Value} (hl : us.length = cs.length) (h : ∀ (j : Nat) (a : D) (u : Value), cs[j]? = some a → us[j]? = some u → RepD H a u) : Rep γ H (.agg (cs.map .d)) (.agg us.toArray) :=
  .agg _ us (by simp [hl]) fun j a u ha hu => by
    simp only [List.getElem?_map, Option.map_eq_some_iff] at ha
    obtain ⟨x, hx, rfl⟩ := ha
    exact .d _ _ (h j x u hx hu)

theorem qAssert_sound {x : Operand} {xt as : TypeId} {ok : Bool} (h : qAssert X x as ok t K F) : Yields X ⟨d, .typeAssert x xt as ok, ty, pos, aft, g⟩ t σ K F := by
  unfold qAssert at h
  simp only [und_eq] at h
  split at h
  · exact .inr h
  · next td z hni hu hz =>
    have hyes : ∀ ti v w ok, ti = as → (Instr.typeAssert (.iface ti v) xt as ok).run X.P w = .ok (if ok then .tuple #[v, .bool true] else v) w := fun ti v w ok e => by
      subst e
      unfold Instr.typeAssert
      simp only [Sem.run_bind, run_underlying hu, Result.andThen_ok]
      cases td <;> first | (exact absurd rfl (hni _)) | (cases ok <;> simp)
    have hno : ∀ ti v w, ti ≠ as → (Instr.typeAssert (.iface ti v) xt as true).run X.P w = .ok (.tuple #[z, .bool false]) w := fun ti v w e => by
      unfold Instr.typeAssert
      simp only [Sem.run_bind, run_underlying hu, Result.andThen_ok]
      cases td <;> first | (exact absurd rfl (hni _)) | simp [e, zeroOf_run hz]
    have hnil : ∀ w, (Instr.typeAssert .nilIface xt as true).run X.P w = .ok (.tuple #[z, .bool false]) w := fun w => by
      unfold Instr.typeAssert
      simp only [Sem.run_bind, run_underlying hu, Result.andThen_ok]
      cases td <;> first | (exact absurd rfl (hni _)) | simp [zeroOf_run hz]
    split at h
    · next tt v hx =>
      have rx : ∀ (γ : Ids) (H : HF) (a : Act), (∀ y, y ∈ (Op.typeAssert x xt as ok).operands → ∀ v, ge t y = some v → Rep γ H v (a.eval y)) → ∃ u, a.eval x = .iface tt u ∧ RepD H v u := fun γ H a so => by
        have r := rep_d (so x (by simp [Op.operands]) _ hx)
        generalize a.eval x = q at r
        cases r with | ifc _ _ u hr => exact ⟨u, rfl, hr⟩
      split at h
      · next hb =>
        refine .inl ⟨_, QJ.value (by simp) (fun γ H a w so sm => ?_), h⟩
        obtain ⟨u, e, hr⟩ := rx γ H a so
        exact ⟨_, by simp [execOp, e, hyes tt u w true (Nat.eq_of_beq_eq_true hb)], rep_two (.d _ _ hr) rep_bool⟩
      · next hb =>
        refine .inl ⟨_, QJ.value (by simp) (fun γ H a w so sm => ?_), h⟩
        obtain ⟨u, e, hr⟩ := rx γ H a so
        exact ⟨_, by simp [execOp, e, hyes tt u w false (Nat.eq_of_beq_eq_true hb)], .d _ _ hr⟩
      · next hb =>
        have hne : tt ≠ as := fun e => by subst e; simp at hb
        refine .inl ⟨_, QJ.value (by simp) (fun γ H a w so sm => ?_), h⟩
        obtain ⟨u, e, hr⟩ := rx γ H a so
        exact ⟨_, by simp [execOp, e, hno tt u w hne], rep_two (rep_const γ H z) rep_bool⟩
      · exact .inr h
    · next tt cs hx =>
      have rx : ∀ (γ : Ids) (H : HF) (a : Act), (∀ y, y ∈ (Op.typeAssert x xt as ok).operands → ∀ v, ge t y = some v → Rep γ H v (a.eval y)) → ∃ us : List Value, a.eval x = .iface tt (.agg us.toArray) ∧ Rep γ H (.agg (cs.map .d)) (.agg us.toArray) := fun γ H a so => by
        have r := rep_d (so x (by simp [Op.operands]) _ hx)
        generalize a.eval x = q at r
        cases r with | ifa _ _ us hl hr => exact ⟨us, rfl, rep_map_d hl hr⟩
      split at h
      · next hb =>
        refine .inl ⟨_, QJ.value (by simp) (fun γ H a w so sm => ?_), h⟩
        obtain ⟨u, e, hr⟩ := rx γ H a so
        exact ⟨_, by simp [execOp, e, hyes tt _ w true (Nat.eq_of_beq_eq_true hb)], rep_two hr rep_bool⟩
      · next hb =>
        refine .inl ⟨_, QJ.value (by simp) (fun γ H a w so sm => ?_), h⟩
        obtain ⟨u, e, hr⟩ := rx γ H a so
        exact ⟨_, by simp [execOp, e, hyes tt _ w false (Nat.eq_of_beq_eq_true hb)], hr⟩
      · next hb =>
        have hne : tt ≠ as := fun e => by subst e; simp at hb
        refine .inl ⟨_, QJ.value (by simp) (fun γ H a w so sm => ?_), h⟩
        obtain ⟨u, e, hr⟩ := rx γ H a so
        exact ⟨_, by simp [execOp, e, hno tt _ w hne], rep_two (rep_const γ H z) rep_bool⟩
      · exact .inr h
    · next hx =>
      split at h
      · refine .inl ⟨_, QJ.value (by simp) (fun γ H a w so sm => ?_), h⟩
        have e := rep_v (so x (by simp [Op.operands]) _ hx)
        exact ⟨_, by simp [execOp, e, hnil w], rep_two (rep_const γ H z) rep_bool⟩
      · exact .inr h
    · exact .inr h
  · exact .inr h

theorem qBuiltin_sound {b : Builtin} {args : Array Operand} {tys : Array TypeId} (h : qBuiltin X b args tys t K F) : Yields X ⟨d, .call { callee := .builtin b, args := args, argTypes := tys }, ty, pos, aft, g⟩ t σ K F := by
  unfold qBuiltin at h
  simp only [und_eq] at h
  split at h
  · next x tt =>
    split at h
    · next e a hu hx =>
      split at h
      · next n hl => exact .inl ⟨_, O.len hx hl hu, h⟩
      · exact .inr h
    · next l hu hx => exact .inl ⟨_, O.bi1 hx (fun cs w => by have hz : (⟨⟨l⟩⟩ : ByteArray).size = l.length := rfl; simp only [builtin, Builtin.len_]; simp [run_underlying hu, goInt, hz]) rfl, h⟩
    · next n e a hu hx =>
      refine .inl ⟨_, QJ.value (by simp) (fun γ H ac w so sm => ⟨.int .i64 n, ?_, .d _ _ (.v _ rfl)⟩), h⟩
      simp [execOp, resolve, invoke, builtin, Builtin.len_, run_underlying hu, goInt]
    · exact .inr h
  · next x y _ =>
    split at h
    · next k a b hx hy => exact .inl ⟨_, O.bi2 hx hy (fun cs w => by simp [builtin, Builtin.max_, Builtin.max2]) rfl, h⟩
    · exact .inr h
  · next x y _ =>
    split at h
    · next k a b hx hy => exact .inl ⟨_, O.bi2 hx hy (fun cs w => by simp [builtin, Builtin.min_, Builtin.min2]) rfl, h⟩
    · exact .inr h
  · next x _ =>
    split at h
    · next hx => exact .inl ⟨_, O.bi1 hx (fun cs w => rfl) rfl, h⟩
    · exact .inr h
  · next x _ =>
    split at h
    · next hx => exact .inl ⟨_, O.bi1 hx (fun cs w => rfl) rfl, h⟩
    · exact .inr h
  · exact .inr h

/-! ### Slices cut -/
theorem bound_run {P : Program} {w : World} {k : IntKind} {i : Int} {y : Nat} {code : BoundsCode} (h0 : 0 ≤ i) (h : i ≤ (y : Int)) : (Instr.sliceBound (.int k i) y code).run P w = .ok i.toNat w := by
  simp [Instr.sliceBound, asIntOf, h0, h]
theorem loV_val {γ : Ids} {H : HF} {a : Act} {lo : Option Operand} {l : Int} (h : loV t lo = some l) (so : ∀ x, lo = some x → ∀ v, ge t x = some v → Rep γ H v (a.eval x)) :
    (lo = none ∧ l = 0) ∨ ∃ o k, lo = some o ∧ a.eval o = .int k l := by
  unfold loV at h
  split at h
  · cases h; exact .inl ⟨rfl, rfl⟩
  · next o =>
    split at h
    · next k l' hg => cases h; exact .inr ⟨o, k, rfl, rep_v (so o rfl _ hg)⟩
    · cases h
theorem hiV_val {γ : Ids} {H : HF} {a : Act} {hi : Option Operand} {n : Nat} {l : Int} (h : hiV t n hi = some l) (so : ∀ x, hi = some x → ∀ v, ge t x = some v → Rep γ H v (a.eval x)) :
    (hi = none ∧ l = n) ∨ ∃ o k, hi = some o ∧ a.eval o = .int k l := by
  unfold hiV at h
  split at h
  · cases h; exact .inl ⟨rfl, rfl⟩
  · next o =>
    split at h
    · next k l' hg => cases h; exact .inr ⟨o, k, rfl, rep_v (so o rfl _ hg)⟩
    · cases h

theorem bounds_run {P : Program} {w : World} {γ : Ids} {H : HF} {a : Act} {lo hi : Option Operand} {isS : Bool} {len cap : Nat} {l h : Int} (hl : loV t lo = some l) (hh : hiV t len hi = some h) (h0 : 0 ≤ l) (h1 : l ≤ h) (h2 : h ≤ (len : Int)) (h3 : len ≤ cap)
    (so : ∀ x, (lo = some x ∨ hi = some x) → ∀ v, ge t x = some v → Rep γ H v (a.eval x)) : (Instr.sliceBounds isS len cap (lo.map a.eval) (hi.map a.eval) none).run P w = .ok (l.toNat, h.toNat, cap) w := by
  have hcast : ((h.toNat : Nat) : Int) = h := Int.toNat_of_nonneg (by omega)
  rcases loV_val (γ := γ) (H := H) (a := a) hl (fun x hx => so x (.inl hx)) with ⟨rfl, rfl⟩ | ⟨o, k, rfl, ho⟩ <;> rcases hiV_val (γ := γ) (H := H) (a := a) hh (fun x hx => so x (.inr hx)) with ⟨rfl, rfl⟩ | ⟨p, k2, rfl, hp⟩
  · simp [Instr.sliceBounds]
  · simp [Instr.sliceBounds, hp, bound_run (show (0 : Int) ≤ h by omega) (show h ≤ (cap : Int) by omega)]
  · simp [Instr.sliceBounds, ho, bound_run h0 (show l ≤ (len : Int) by omega)]
  · simp [Instr.sliceBounds, ho, hp, bound_run (show (0 : Int) ≤ h by omega) (show h ≤ (cap : Int) by omega), bound_run h0 (show l ≤ ((h.toNat : Nat) : Int) by omega)]

theorem RepD.cut {H : HF} {k l h : Nat} {xs : List (List D)} {A : Option Addr} {c c' : Nat} (r : RepD H (.sl k xs) (.slice A xs.length c)) (h1 : l ≤ h) (h2 : h ≤ xs.length) (hc1 : h ≤ c') (hc2 : c' ≤ c) :
    RepD H (.sl k ((xs.take h).drop l)) (.slice (if c' = l then A else A.map (·.add (l * k))) (h - l) (c' - l)) := by
  cases r with
  | sl _ _ _ _ b o us hk hn hc hA hH hr =>
    have hlen : ((xs.take h).drop l).length = h - l := by simp; omega
    have get : ∀ (j : Nat) (cs : List D), ((xs.take h).drop l)[j]? = some cs → xs[l + j]? = some cs ∧ l + j < h := by
      intro j cs hj
      rw [List.getElem?_drop, List.getElem?_take] at hj
      split at hj
      · exact ⟨hj, by assumption⟩
      · cases hj
    have key := RepD.sl (H := H) k ((xs.take h).drop l) (if c' = l then A else A.map (·.add (l * k))) (c' - l) b (o + l * k) (fun j i => us (l + j) i) (fun cs hcs => hk cs (List.mem_of_mem_take (List.mem_of_mem_drop hcs)))
      (by omega) (by omega) (fun h0 => by
        rw [hlen] at h0
        rw [if_neg (by omega), hA (by omega)]
        simp only [Option.map_some, Addr.add]
        split
        · next e => rw [e]; rfl
        · rfl) (fun j i hj hi => by
          rw [hlen] at hj
          rw [show o + l * k + j * k + i = o + (l + j) * k + i from by rw [Nat.add_mul]; omega]
          exact hH (l + j) i (by omega) hi) (fun j i cs a hj ha => hr (l + j) i cs a (get j cs hj).1 ha)
    rw [hlen] at key
    exact key

theorem qSlice_sound {st : TypeId} {x : Operand} {lo hi mx : Option Operand} (h : qSlice X st x lo hi mx t K F) : Yields X ⟨d, .slice st x lo hi mx, ty, pos, aft, g⟩ t σ K F := by
  unfold qSlice at h
  simp only [und_eq] at h
  split at h
  · next s hu hx =>
    split at h
    · next l hh hl hhi =>
      obtain ⟨⟨h0, h1, h2⟩, h⟩ := h
      refine .inl ⟨_, QJ.value (by simp) (fun γ H a w so sm => ⟨_, ?_, .d _ _ (.v _ rfl)⟩), h⟩
      have hr := rep_v (so x (by simp [Op.operands]) _ hx)
      have hb := bounds_run (P := X.P) (w := w) (γ := γ) (H := H) (a := a) (isS := false) (len := s.length) (cap := s.length) hl hhi h0 h1 h2 (Nat.le_refl _) (fun y hy v hv => so y (by
        rcases hy with rfl | rfl <;> simp [Op.operands]) v hv)
      have e : (⟨⟨s⟩⟩ : ByteArray).extract l.toNat hh.toNat = ⟨⟨(s.take hh.toNat).drop l.toNat⟩⟩ := by
        apply ByteArray.ext
        apply Array.toList_inj.1
        simp [ByteArray.data_extract, List.drop_take]
      have hsz : (⟨⟨s⟩⟩ : ByteArray).size = s.length := by simp [ByteArray.size]
      simp only [execOp, hr, Instr.sliceAt, Instr.slice, Sem.run_bind, run_underlying hu, Result.andThen_ok, hsz, hb, Sem.run_pure, Option.map_none, e, Option.isSome_none, Bool.false_eq_true, if_false]
    · exact .inr h
  · next e a hu hx =>
    split at h
    · next k xs k' hel hs =>
      split at h
      · next l hh hk hl hhi =>
        obtain rfl := Nat.eq_of_beq_eq_true hk
        obtain ⟨⟨h0, h1, h2⟩, h⟩ := h
        refine .inl ⟨_, QJ.value (by simp) (fun γ H ac w so sm => ?_), h⟩
        have hr := rep_elems (so x (by simp [Op.operands]) _ hx) hel
        generalize hq : ac.eval x = q at hr
        have hr' := hr
        cases hr with
        | sl _ _ A c b o us hk hn hc hA hH hr2 =>
          refine ⟨_, ?_, .d _ _ (hr'.cut (l := l.toNat) (h := hh.toNat) (c' := c) (by omega) (by omega) (by omega) (Nat.le_refl _))⟩
          have hb := bounds_run (P := X.P) (w := w) (γ := γ) (H := H) (a := ac) (isS := true) hl hhi h0 h1 h2 hn (fun y hy v hv => so y (by
            rcases hy with rfl | rfl <;> simp [Op.operands]) v hv)
          simp only [execOp, hq, Instr.sliceAt, Instr.slice, Sem.run_bind, run_underlying hu, Result.andThen_ok, hb, szOf_run hs, Sem.run_pure, Option.map_none]
      · exact .inr h
    · exact .inr h
  · next e a m hu hx =>
    split at h
    · next k xs k' hel hs =>
      split at h
      · next l ho kk mm hk hl hm =>
        split at h
        · next kh hh hho =>
          obtain rfl := Nat.eq_of_beq_eq_true hk
          obtain ⟨⟨h0, h1, h2, rfl⟩, h⟩ := h
          refine .inl ⟨_, QJ.value (by simp) (fun γ H ac w so sm => ?_), h⟩
          have hr := rep_elems (so x (by simp [Op.operands]) _ hx) hel
          have e1 := rep_v (so m (by simp [Op.operands]) _ hm)
          have e2 := rep_v (so ho (by simp [Op.operands]) _ hho)
          have hlo := loV_val (γ := γ) (H := H) (a := ac) hl (fun y hy v hv => so y (by subst hy; simp [Op.operands]) v hv)
          generalize hq : ac.eval x = q at hr
          have hr' := hr
          cases hr with
          | sl _ _ A c b o us hk hn hc hA hH hr2 =>
            have hcut := hr'.cut (l := l.toNat) (h := mm.toNat) (c' := mm.toNat) (by omega) (by omega) (Nat.le_refl _) (by omega)
            have hlen : ((xs.take mm.toNat).drop l.toNat).length = mm.toNat - l.toNat := by simp; omega
            have hb : (Instr.sliceBounds true xs.length c (lo.map ac.eval) (some (.int kh mm)) (some (.int kk mm))).run X.P w = .ok (l.toNat, mm.toNat, mm.toNat) w := by
              have hcm : ((mm.toNat : Nat) : Int) = mm := Int.toNat_of_nonneg (by omega)
              rcases hlo with ⟨rfl, rfl⟩ | ⟨o', k2, rfl, ho'⟩
              · simp [Instr.sliceBounds, bound_run (show (0 : Int) ≤ mm by omega) (show mm ≤ (c : Int) by omega), bound_run (show (0 : Int) ≤ mm by omega) (show mm ≤ ((mm.toNat : Nat) : Int) by omega)]
              · simp [Instr.sliceBounds, ho', bound_run (show (0 : Int) ≤ mm by omega) (show mm ≤ (c : Int) by omega), bound_run (show (0 : Int) ≤ mm by omega) (show mm ≤ ((mm.toNat : Nat) : Int) by omega), bound_run h0 (show l ≤ ((mm.toNat : Nat) : Int) by omega)]
            refine ⟨.slice (if mm.toNat = l.toNat then A else A.map (·.add (l.toNat * k))) (mm.toNat - l.toNat) (mm.toNat - l.toNat), ?_, ?_⟩
            · simp only [execOp, hq, Instr.sliceAt, Instr.slice, Sem.run_bind, run_underlying hu, Result.andThen_ok, Option.map_some, e1, e2, hb, szOf_run hs, Sem.run_pure]
            · have := Rep.full (γ := γ) (H := H) k ((xs.take mm.toNat).drop l.toNat) (if mm.toNat = l.toNat then A else A.map (·.add (l.toNat * k))) (by rw [hlen]; exact hcut)
              rw [hlen] at this; exact this
        · exact .inr h
      · exact .inr h
    · exact .inr h
  · exact .inr h

/-- **What is reckoned is what is yielded.** -/
theorem qv_sound {o : Oper} (h : qv X o t σ K F) : Yields X o t σ K F := by
  obtain ⟨d, op, ty, pos, aft, g⟩ := o
  unfold qv at h
  simp only at h
  split at h
  · split at h
    · next v hx => exact .inl ⟨v, QJ.value (by simp) (fun γ H a w so sm => ⟨_, rfl, so _ (by simp [Op.operands]) _ hx⟩), h⟩
    · exact .inr h
  · split at h
    · next v hx => exact .inl ⟨v, QJ.value (by simp) (fun γ H a w so sm => ⟨_, rfl, so _ (by simp [Op.operands]) _ hx⟩), h⟩
    · exact .inr h
  · next c x y =>
    split at h
    · next hc =>
      split at h
      · next v hx => exact .inl ⟨v, QJ.value (by simp) (fun γ H a w so sm => ⟨a.eval x, by have := rep_v (so c (by simp [Op.operands]) _ hc); simp [execOp, asBool, this], so _ (by simp [Op.operands]) _ hx⟩), h⟩
      · exact .inr h
    · next hc =>
      split at h
      · next v hx => exact .inl ⟨v, QJ.value (by simp) (fun γ H a w so sm => ⟨a.eval y, by have := rep_v (so c (by simp [Op.operands]) _ hc); simp [execOp, asBool, this], so _ (by simp [Op.operands]) _ hx⟩), h⟩
      · exact .inr h
    · exact .inr h
  · exact qBin_sound h
  · exact qUn_sound h
  · exact qConv_sound h
  · exact qLoad_sound h
  · exact qFieldAddr_sound h
  · exact qField_sound h
  · exact qIndexAddr_sound h
  · exact qIndex_sound h
  · exact qNil_sound h
  · exact qExtract_sound h
  · exact qIface_sound h
  · exact qFunc_sound h
  · exact qAssert_sound h
  · exact qSlice_sound h
  · exact qBuiltin_sound h
  · exact .inr h
end
end Go.Gv
