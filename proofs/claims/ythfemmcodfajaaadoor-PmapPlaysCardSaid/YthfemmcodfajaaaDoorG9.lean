/- What is reckoned is what an operation yields: memory. -/
import Derived.Test.YthfemmcodfajaaaDoorG8
set_option linter.unusedVariables false
set_option linter.unusedSimpArgs false
namespace Go.Gv
open Go.RowKit

section
variable {X : Cx} {d : Option Nat} {ty : TypeId} {pos : String} {aft : Array Edge} {g : Option (Nat × Bool)} {t : T} {σ : Sg} {K : AV → Prop} {F : Prop}

/-- Cells of an element of a private row. -/
theorem O.loadAN {x : Operand} {i off n : Nat} {k : Nat} {xs : List (List D)} {cs : List D} {e : TypeId} {j l : Nat} {av : AV} (hx : ge t x = some av) (hbx : boxOf av = some (i, off)) (hi : look i σ = some (.arr k xs)) (hj : off = j * k + l) (hv : xs[j]? = some cs) (hl : l + n ≤ cs.length)
    (ha : ∀ w, (isAgg e).run X.P w = .ok true w) (hs : ∀ w, (sizeOf e).run X.P w = .ok n w) : QJ X ⟨d, .load e x, ty, pos, aft, g⟩ t σ (.agg (((cs.drop l).take n).map .d)) :=
  QJ.value (by simp) (fun γ H a w so sm => by
    have h1 := so _ (by simp [Op.operands]) _ hx
    have hq := rep_box hbx h1
    obtain ⟨hle, hk, h2⟩ := sm.ent i _ hi
    have hjl : j < xs.length := (List.getElem?_eq_some_iff.1 hv).1
    have hck : cs.length = k := hk cs (mem_of_get hv)
    obtain ⟨tt, us, h3, h4, h5⟩ := h2 (by omega)
    have hbase : ∀ m, m < k → j * k + m < us.length := fun m hm => by
      rw [h4]
      calc j * k + m < j * k + k := by omega
        _ = (j + 1) * k := by rw [Nat.add_mul]; omega
        _ ≤ (γ i).n * k := Nat.mul_le_mul_right _ (by omega)
    refine ⟨.agg ((us.drop off).take n).toArray, ?_, .agg _ _ ?_ fun m b u hb hu => ?_⟩
    · have := loadVar_agg (P := X.P) (w := w) (b := (γ i).b) (off := off) (us := (us.drop off).take n) ha hs (by
        simp only [List.length_take, List.length_drop]
        by_cases h0 : n = 0
        · omega
        · have := hbase (l + n - 1) (by omega); omega) (fun m hm => by
        rw [cell_of_block h3, List.getElem?_take, if_pos hm, List.getElem?_drop])
      simp [execOp, Instr.loadAt, Instr.sureAddr, hq, this]
    · simp only [List.length_take, List.length_drop, List.length_map]
      by_cases h0 : n = 0
      · omega
      · have := hbase (l + n - 1) (by omega); omega
    · simp only [List.getElem?_map, Option.map_eq_some_iff] at hb
      obtain ⟨y, hy, rfl⟩ := hb
      rw [List.getElem?_take] at hy hu
      split at hy
      · next hm =>
        rw [if_pos hm] at hu
        rw [List.getElem?_drop] at hy hu
        refine .d _ _ (h5 j (l + m) cs y u hv hy ?_)
        rw [← hu]; congr 1; omega
      · cases hy)

theorem qLoad_sound {e : TypeId} {x : Operand} (h : qLoad X e x t σ K F) : Yields X ⟨d, .load e x, ty, pos, aft, g⟩ t σ K F := by
  unfold qLoad at h
  simp only [frcN_eq] at h
  split at h
  · next n i off ha hs hx =>
    split at h
    · next cs hi =>
      split at h
      · next v hv => exact .inl ⟨_, O.load1 hx rfl hi hv (aggOf_run ha), h⟩
      · exact .inr h
    · exact .inr h
  · next n i off ha hs hx =>
    split at h
    · next cs hi =>
      split at h
      · next hb => exact .inl ⟨_, O.loadN hx rfl hi (aggOf_run ha) (szOf_run hs) (Nat.le_of_ble_eq_true hb), h⟩
      · exact .inr h
    · exact .inr h
  · next n i off ha hs hx =>
    split at h
    · next cs hi =>
      obtain ⟨v, hv, h⟩ := h
      exact .inl ⟨_, O.load1 hx rfl hi hv (aggOf_run ha), h⟩
    · next k xs hi =>
      obtain ⟨j, l, cs, v, h1, h2, h3, h⟩ := h
      exact .inl ⟨_, O.loadA hx rfl hi h1 h2 h3 (aggOf_run ha), h⟩
    · exact .inr h
  · next n i off ha hs hx =>
    split at h
    · next cs hi =>
      obtain ⟨ds, hle, rfl, h⟩ := h
      exact .inl ⟨_, O.loadN hx rfl hi (aggOf_run ha) (szOf_run hs) hle, h⟩
    · next k xs hi =>
      obtain ⟨j, l, cs, ds, h1, h2, h3, rfl, h⟩ := h
      exact .inl ⟨_, O.loadAN hx rfl hi h1 h2 h3 (aggOf_run ha) (szOf_run hs), h⟩
    · exact .inr h
  · next n cs ha hs hx =>
    split at h
    · exact .inl ⟨_, O.loadP1 hx rfl (aggOf_run ha), h⟩
    · exact .inr h
  · next n cs ha hs hx =>
    split at h
    · next hb => exact .inl ⟨_, O.loadPN hx (aggOf_run ha) (szOf_run hs) (Nat.le_of_ble_eq_true hb), h⟩
    · exact .inr h
  · exact .inr h

theorem qFieldAddr_sound {s : TypeId} {x : Operand} {fld : Nat} (h : qFieldAddr X s x fld t K F) : Yields X ⟨d, .fieldAddr s x fld, ty, pos, aft, g⟩ t σ K F := by
  unfold qFieldAddr at h
  simp only [und_eq] at h
  split at h
  · next fs hu =>
    split at h
    · next f hf =>
      split at h
      · next n hs =>
        split at h
        · next cs hx => exact .inl ⟨_, O.fieldP hx hu hf (szOf_run hs) rfl, h⟩
        · next i off hx => exact .inl ⟨_, O.fieldB hx rfl hu hf (szOf_run hs) rfl, h⟩
        · next i off hx => exact .inl ⟨_, O.fieldB hx rfl hu hf (szOf_run hs) rfl, h⟩
        · exact .inr h
      · exact .inr h
    · exact .inr h
  · exact .inr h

theorem rep_agg {γ : Ids} {H : HF} {cs : List AV} {u : Value} (r : Rep γ H (.agg cs) u) : ∃ us : List Value, u = .agg us.toArray ∧ us.length = cs.length ∧ ∀ (j : Nat) (a : AV) (v : Value), cs[j]? = some a → us[j]? = some v → Rep γ H a v := by
  cases r with
  | agg _ us hl h => exact ⟨us, rfl, hl, h⟩
theorem part_cell {P : Program} {e : TypeId} (ha : aggOf P e = some false) {us : List Value} {off : Nat} {v : Value} {w : World} (h : us[off]? = some v) : (part e us.toArray off).run P w = .ok v w := by
  simp [part, aggOf_run ha, h]
theorem part_cells {P : Program} {e : TypeId} {n : Nat} (ha : aggOf P e = some true) (hs : szOf P e = some n) {us : List Value} {off : Nat} {w : World} : (part e us.toArray off).run P w = .ok (.agg ((us.drop off).take n).toArray) w := by
  have : us.toArray.extract off (off + n) = ((us.drop off).take n).toArray := by
    apply Array.toList_inj.1
    simp
  simp [part, aggOf_run ha, szOf_run hs, this]
theorem rep_cut {γ : Ids} {H : HF} {cs : List AV} {us : List Value} {off n : Nat} (hl : us.length = cs.length) (h : ∀ (j : Nat) (a : AV) (v : Value), cs[j]? = some a → us[j]? = some v → Rep γ H a v) :
    Rep γ H (.agg ((cs.drop off).take n)) (.agg ((us.drop off).take n).toArray) := by
  refine .agg _ _ (by simp [hl]) fun j a u h5 h6 => ?_
  rw [List.getElem?_take] at h5 h6
  split at h5
  · next hj => rw [if_pos hj] at h6; rw [List.getElem?_drop] at h5 h6; exact h _ a u h5 h6
  · cases h5

theorem qField_sound {s : TypeId} {x : Operand} {fld : Nat} (h : qField X s x fld t K F) : Yields X ⟨d, .field s x fld, ty, pos, aft, g⟩ t σ K F := by
  unfold qField at h
  simp only [und_eq] at h
  split at h
  · next fs hu =>
    split at h
    · next f hf =>
      split at h
      · next cs ha hx =>
        split at h
        · next v hv =>
          refine .inl ⟨_, QJ.value (by simp) (fun γ H a w so sm => ?_), h⟩
          obtain ⟨us, e, hl, hr⟩ := rep_agg (so _ (by simp [Op.operands]) _ hx)
          have hlt : f.offset < us.length := by rw [hl]; exact (List.getElem?_eq_some_iff.1 hv).1
          refine ⟨us[f.offset], ?_, hr _ v _ hv (by simp [hlt])⟩
          simp [execOp, Instr.field, run_underlying hu, hf, e, asAgg, part_cell ha (List.getElem?_eq_getElem hlt)]
        · exact .inr h
      · next n cs ha hs hx =>
        split at h
        · next hb =>
          refine .inl ⟨_, QJ.value (by simp) (fun γ H a w so sm => ?_), h⟩
          obtain ⟨us, e, hl, hr⟩ := rep_agg (so _ (by simp [Op.operands]) _ hx)
          refine ⟨_, ?_, rep_cut hl hr⟩
          simp [execOp, Instr.field, run_underlying hu, hf, e, asAgg, part_cells ha hs]
        · exact .inr h
      · exact .inr h
    · exact .inr h
  · exact .inr h

theorem litIx_sound {y : Operand} {j : Nat} (h : litIx y = some j) : ∃ k, y = .const (.int k (.ofNat j)) := by
  unfold litIx at h
  split at h
  · cases h; exact ⟨_, rfl⟩
  · cases h

/-- An element of an array behind a pointer to data. -/
theorem O.idxPtr {s e : TypeId} {x y : Operand} {cs : List D} {k n : Nat} {kk : IntKind} {m : Int} (hx : ge t x = some (.d (.ptr cs))) (hy : ge t y = some (.d (.v (.int kk m))))
    (hu : X.P.underlying s = some (.array n e)) (hz : ∀ w, (sizeOf e).run X.P w = .ok k w) (hm : 0 ≤ m) (hc : m < (n : Int)) : QJ X ⟨d, .indexAddr s x y, ty, pos, aft, g⟩ t σ (.d (.ptr (cs.drop (m.toNat * k)))) :=
  QJ.value (by simp) (fun γ H a w so sm => by
    obtain ⟨b, o, us, h1, h2, h3⟩ := repd_ptr (rep_d (so _ (by simp [Op.operands]) _ hx))
    have h4 := rep_v (so _ (by simp [Op.operands]) _ hy)
    refine ⟨.pointer (some ⟨b, o + m.toNat * k, none⟩), ?_, .d _ _ (.ptr _ _ _ (fun j => us (m.toNat * k + j)) (fun j hj => ?_) fun j a hj => ?_)⟩
    · have hb : 0 ≤ m ∧ m < (n : Int) := ⟨hm, hc⟩
      simp [execOp, h1, h4, Instr.indexAt, Instr.sureAddr, asIntOf, underlying, hu, hz, hb, add_lit]
    · simp only [List.length_drop] at hj
      rw [Nat.add_assoc]; exact h2 _ (by omega)
    · rw [List.getElem?_drop] at hj; exact h3 _ a hj)

theorem qIndexAddr_sound {s : TypeId} {x y : Operand} (h : qIndexAddr X s x y t K F) : Yields X ⟨d, .indexAddr s x y, ty, pos, aft, g⟩ t σ K F := by
  unfold qIndexAddr at h
  simp only [und_eq] at h
  split at h
  · next e a kk m hu hx hy =>
    split at h
    · next k hs =>
      split at h
      · next k' xs =>
        split at h
        · next hk =>
          obtain rfl := Nat.eq_of_beq_eq_true hk
          obtain ⟨cs, h0, h1, h⟩ := h
          exact .inl ⟨_, O.idx hx hy rfl hu (szOf_run hs) h0 h1, h⟩
        · exact .inr h
      · next k' xs =>
        split at h
        · next hk =>
          obtain rfl := Nat.eq_of_beq_eq_true hk
          obtain ⟨cs, h0, h1, h⟩ := h
          exact .inl ⟨_, O.idx hx hy rfl hu (szOf_run hs) h0 h1, h⟩
        · exact .inr h
      · next i k' n =>
        split at h
        · next hk =>
          obtain rfl := Nat.eq_of_beq_eq_true hk
          obtain ⟨h0, h⟩ := h
          exact .inl ⟨_, O.idxA hx hy hu (szOf_run hs) h0.1 (by omega), h⟩
        · exact .inr h
      · exact .inr h
    · exact .inr h
  · next n e a kk m hu hx hy =>
    split at h
    · next k hs =>
      split at h
      · next i off j hj =>
        split at h
        · next hb =>
          obtain ⟨k2, rfl⟩ := litIx_sound hj
          simp only [ge, ofConst, Option.some.injEq, AV.d.injEq, D.v.injEq, Value.int.injEq] at hy
          obtain ⟨rfl, rfl⟩ := hy
          simp only [Nat.blt_eq] at hb
          exact .inl ⟨_, QJ.view (O.idxB (m := Int.ofNat j) hx rfl rfl hu (szOf_run hs) (by simp) (by simpa using hb)) (fun γ H u r => by cases r; exact .box _ _), h⟩
        · exact .inr h
      · next i off _ => exact .inl ⟨_, O.idxB hx rfl hy hu (szOf_run hs) h.1.1 h.1.2, h.2⟩
      · next i off => exact .inl ⟨_, O.idxB hx rfl hy hu (szOf_run hs) h.1.1 h.1.2, h.2⟩
      · next cs j hj =>
        split at h
        · next hb =>
          obtain ⟨k2, rfl⟩ := litIx_sound hj
          simp only [ge, ofConst, Option.some.injEq, AV.d.injEq, D.v.injEq, Value.int.injEq] at hy
          obtain ⟨rfl, rfl⟩ := hy
          simp only [Nat.blt_eq] at hb
          exact .inl ⟨_, O.idxPtr (m := Int.ofNat j) hx rfl hu (szOf_run hs) (by simp) (by simpa using hb), h⟩
        · exact .inr h
      · next cs _ =>
        obtain ⟨h0, ds, rfl, _, h⟩ := h
        exact .inl ⟨_, O.idxPtr hx hy hu (szOf_run hs) h0.1 h0.2, h⟩
      · exact .inr h
    · exact .inr h
  · exact .inr h

theorem qIndex_sound {s : TypeId} {x y : Operand} (h : qIndex X s x y t K F) : Yields X ⟨d, .index s x y, ty, pos, aft, g⟩ t σ K F := by
  unfold qIndex at h
  simp only [und_eq] at h
  split at h
  · next l kk m hu hx hy =>
    obtain ⟨b, h0, hb, h⟩ := h
    refine .inl ⟨_, QJ.value (by simp) (fun γ H a w so sm => ?_), h⟩
    have e1 := rep_v (so _ (by simp [Op.operands]) _ hx)
    have e2 := rep_v (so _ (by simp [Op.operands]) _ hy)
    refine ⟨.int .u8 b.toNat, ?_, .d _ _ (.v _ rfl)⟩
    have hg : (⟨⟨l⟩⟩ : ByteArray)[m.toNat]? = some b := by
      have hlt : m.toNat < l.length := (List.getElem?_eq_some_iff.1 hb).1
      have hlt' : m.toNat < (⟨⟨l⟩⟩ : ByteArray).size := by simpa [ByteArray.size] using hlt
      rw [getElem?_pos (⟨⟨l⟩⟩ : ByteArray) m.toNat hlt']
      have := (List.getElem?_eq_some_iff.1 hb).2
      simpa [ByteArray.getElem_eq_getElem_data] using this
    simp [execOp, Instr.index, e1, e2, asIntOf, run_underlying hu, h0, hg]
  · next n e cs kk m hu hx hy =>
    split at h
    · next k ha hs =>
      obtain ⟨h0, v, hv, h⟩ := h
      refine .inl ⟨_, QJ.value (by simp) (fun γ H a w so sm => ?_), h⟩
      obtain ⟨us, e1, hl, hr⟩ := rep_agg (so _ (by simp [Op.operands]) _ hx)
      have e2 := rep_v (so _ (by simp [Op.operands]) _ hy)
      have hlt : m.toNat * k < us.length := by rw [hl]; exact (List.getElem?_eq_some_iff.1 hv).1
      refine ⟨us[m.toNat * k], ?_, hr _ v _ hv (by simp [hlt])⟩
      simp [execOp, Instr.index, e1, e2, asIntOf, run_underlying hu, h0.1, h0.2, szOf_run hs, part_cell ha (List.getElem?_eq_getElem hlt)]
    · next k ha hs =>
      obtain ⟨h0, ds, hle, rfl, h⟩ := h
      refine .inl ⟨_, QJ.value (by simp) (fun γ H a w so sm => ?_), h⟩
      obtain ⟨us, e1, hl, hr⟩ := rep_agg (so _ (by simp [Op.operands]) _ hx)
      have e2 := rep_v (so _ (by simp [Op.operands]) _ hy)
      refine ⟨_, ?_, rep_cut hl hr⟩
      simp [execOp, Instr.index, e1, e2, asIntOf, run_underlying hu, h0.1, h0.2, szOf_run hs, part_cells ha hs]
    · exact .inr h
  · exact .inr h

theorem qNil_sound {x : Operand} (h : qNil x t K F) : Yields X ⟨d, .nilCheck x, ty, pos, aft, g⟩ t σ K F := by
  unfold qNil at h
  split at h
  · next hx => exact .inl ⟨_, O.nilB hx rfl, h⟩
  · next hx => exact .inl ⟨_, O.nilB hx rfl, h⟩
  · next hx => exact .inl ⟨_, O.nilP hx, h⟩
  · next f cs hx =>
    refine .inl ⟨_, QJ.value (by simp) (fun γ H a w so sm => ?_), h⟩
    have r := so _ (by simp [Op.operands]) _ hx
    refine ⟨a.eval x, ?_, r⟩
    generalize hq : a.eval x = q at r
    cases r with | d _ _ hr => cases hr; simp [execOp, hq]
  · next f cs hx =>
    refine .inl ⟨_, QJ.value (by simp) (fun γ H a w so sm => ?_), h⟩
    have r := so _ (by simp [Op.operands]) _ hx
    refine ⟨a.eval x, ?_, r⟩
    generalize hq : a.eval x = q at r
    cases r; simp [execOp, hq]
  · exact .inr h

theorem qExtract_sound {x : Operand} {ix : Nat} (h : qExtract x ix t K F) : Yields X ⟨d, .extract x ix, ty, pos, aft, g⟩ t σ K F := by
  unfold qExtract at h
  split at h
  · next vs hx =>
    split at h
    · next v hv => exact .inl ⟨_, O.extract hx hv, h⟩
    · exact .inr h
  · exact .inr h

theorem qIface_sound {xt : TypeId} {x : Operand} (h : qIface X xt x t K F) : Yields X ⟨d, .makeInterface xt x, ty, pos, aft, g⟩ t σ K F := by
  unfold qIface at h
  simp only [und_eq] at h
  split at h
  · exact .inr h
  · next td hni hu =>
    have hrun : ∀ v w, (Instr.makeInterface xt v).run X.P w = .ok (.iface xt v) w := fun v w => by
      simp only [Instr.makeInterface, Sem.run_bind, run_underlying hu, Result.andThen_ok]
      cases td <;> simp_all
    split at h
    · next v hx =>
      refine .inl ⟨_, QJ.value (by simp) (fun γ H a w so sm => ?_), h⟩
      exact ⟨.iface xt (a.eval x), by simp [execOp, hrun], .d _ _ (.ifc xt v _ (rep_d (so _ (by simp [Op.operands]) _ hx)))⟩
    · next cs hx =>
      split at h
      · next ds hd =>
        refine .inl ⟨_, QJ.value (by simp) (fun γ H a w so sm => ?_), h⟩
        obtain ⟨us, e1, hl, hr⟩ := rep_agg (so _ (by simp [Op.operands]) _ hx)
        obtain ⟨h1, h2⟩ := dAll_rep hd hl hr
        exact ⟨.iface xt (a.eval x), by simp [execOp, hrun], by rw [e1]; exact .d _ _ (.ifa xt ds us h1 h2)⟩
      · exact .inr h
    · exact .inr h
  · exact .inr h

theorem qFunc_sound {fn : Go.Fn} {first caps : Array Operand} (h : qFunc fn first caps t K F) : Yields X ⟨d, .makeFunc fn first caps, ty, pos, aft, g⟩ t σ K F := by
  unfold qFunc at h
  split at h
  · next f =>
    split at h
    · next as ha =>
      have rep : ∀ (γ : Ids) (H : HF) (a : Act), (∀ x, x ∈ (Op.makeFunc (.func f) ⟨[]⟩ caps).operands → ∀ v, ge t x = some v → Rep γ H v (a.eval x)) → (caps.toList.map a.eval).length = as.length ∧ ∀ (j : Nat) (y : AV) (u : Value), as[j]? = some y → (caps.toList.map a.eval)[j]? = some u → Rep γ H y u := fun γ H a so =>
        ⟨by have := congrArg List.length (geAll_map ha); simpa using this, ge_list (fun x hx v hv => so x (by simp [Op.operands]; simpa using hx) v hv) (geAll_map ha)⟩
      have run : ∀ (a : Act) w, (execOp a.eval ⟨d, .makeFunc (.func f) ⟨[]⟩ caps, ty, pos, aft, g⟩).run X.P w = .ok (.value (.func (.func f) #[] (caps.toList.map a.eval).toArray)) w := fun a w => by
        have : caps.map a.eval = (caps.toList.map a.eval).toArray := by apply Array.toList_inj.1; simp
        simp [execOp, Instr.makeFunc, this]
      split at h
      · next ds hd =>
        refine .inl ⟨_, QJ.value (by simp) (fun γ H a w so sm => ?_), h⟩
        obtain ⟨r1, r2⟩ := rep γ H a so
        obtain ⟨h1, h2⟩ := dAll_rep hd r1 r2
        exact ⟨_, run a w, .d _ _ (.fn f ds _ h1 h2)⟩
      · refine .inl ⟨_, QJ.value (by simp) (fun γ H a w so sm => ?_), h⟩
        obtain ⟨r1, r2⟩ := rep γ H a so
        exact ⟨_, run a w, .fnp f as _ r1 r2⟩
    · exact .inr h
  · exact .inr h
end
end Go.Gv
