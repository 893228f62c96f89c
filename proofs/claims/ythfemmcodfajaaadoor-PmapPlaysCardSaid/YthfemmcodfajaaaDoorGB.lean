/- append, on a private row. -/
import Derived.Test.YthfemmcodfajaaaDoorGA
set_option linter.unusedVariables false
set_option linter.unusedSimpArgs false
namespace Go.Gv
open Go.RowKit
section append
variable {X : Cx} {d : Option Nat} {ty : TypeId} {pos : String} {aft : Array Edge} {g : Option (Nat × Bool)} {t : T} {σ : Sg} {K : T → Sg → Prop}
/-- **append onto a private row.** -/
theorem O.appendA {x y : Operand} {st xt el : TypeId} {i k n bytes : Nat} {z : Value} {xs ys : List (List D)} {av : AV} (hN : dOk d X.N = true) (hx : ge t x = some (.arr i k n)) (hy : ge t y = some av) (hi : look i σ = some (.arr k xs)) (hn : xs.length = n) (hel : elems av = some (k, ys))
    (hu : X.P.underlying st = some (.slice el)) (hxu : X.P.underlying xt = some (.slice el)) (hz : ∀ w, (sizeOf el).run X.P w = .ok k w) (hzv : ∀ w, (zeroValue el).run X.P w = .ok z w) (hzl : z.cells.size = k)
    (hb : ∀ w, ((fun i : TypeInfo => i.bytes) <$> typeInfo el).run X.P w = .ok bytes w) (hb0 : bytes ≠ 0) (hbytes : (3 * (n + ys.length) + 4096) * bytes ≤ 281474976710656) (hpin : i ∉ X.pin)
    (kk : K (putT d (.arr i k (n + ys.length)) (dropT i t)) ((i, .arr k (xs ++ ys)) :: dropS i σ)) :
    OpJ X ⟨d, .call { callee := .builtin .append, args := #[x, y], argTypes := #[st, xt] }, ty, pos, aft, g⟩ t σ K := by
  intro γ H a w s next Q' hk
  have hr := ge_sound s.tmp hx
  generalize hq : a.eval x = q at hr
  cases hr with
  | arr _ _ _ A hncap hA =>
  have hry := rep_elems (ge_sound s.tmp hy) hel
  obtain ⟨hyk, hylen⟩ := repd_sl_len hry
  obtain ⟨B, cy, vs, hqy, hfc, hvl, hvone, hvrep⟩ := repd_flat (P := X.P) hry
  obtain ⟨hle, hxk, hreal⟩ := s.mem.ent i _ hi
  have hexec : ∀ r : Result Value, (Builtin.append_ #[st, xt] ty #[.slice A n (γ i).n, a.eval y]).run X.P w = r → (execOp a.eval ⟨d, .call { callee := .builtin .append, args := #[x, y], argTypes := #[st, xt] }, ty, pos, aft, g⟩).run X.P w =
      r.andThen fun v w => .ok (.value v) w := fun r h => by
    simp only [execOp, resolve, invoke, builtin, List.map_toArray, List.map_cons, List.map_nil, Sem.run_bind, Sem.run_pure, Result.andThen_ok, hq, h]
  have s1 := s.drop i
  have hi1 : look i (dropS i σ) = some (.arr k xs) := by rw [dropS, look_map, hi]; rfl
  subst hn
  by_cases hroom : xs.length + ys.length ≤ (γ i).n
  · have hrun := append_room (P := X.P) (w := w) (ty := ty) (A := A) (n := xs.length) (c := (γ i).n) hu hxu hz (fun w => by rw [hqy]; exact lenOf_sl) (hfc w s.mem.hok.c) hroom
    by_cases hc0 : 0 < (γ i).n
    · have hA' := hA hc0
      subst hA'
      obtain ⟨tt, us, h3, h4, h5⟩ := hreal hc0
      have hfit : xs.length * k + 0 + vs.length ≤ us.length := by
        rw [h4, hvl, Nat.add_zero, ← Nat.add_mul]; exact Nat.mul_le_mul_right _ hroom
      obtain ⟨w', hw1, hw2, hw3⟩ := store_run (P := X.P) vs w us (xs.length * k) 0 h3 hfit hvone
      simp only [add_lit, Nat.zero_add, hw1, Result.andThen_ok] at hrun
      rw [semAt_of (by simp), hexec _ hrun, Result.andThen_ok, Oper.uponIn_value]
      simp only [Nat.add_zero] at hw2 hfit
      have he : EntOk γ H w' i (.arr k (xs ++ ys)) := ⟨by rw [List.length_append]; exact hroom, fun cs hcs => by rcases List.mem_append.1 hcs with h | h; exact hxk cs h; exact hyk cs h, fun _ => ⟨tt, _, hw2, by rw [setL_length]; exact h4,
          arr_snoc hxk hyk h5 hvrep (fun p hp => by rw [setL_get' _ _ _ _ hfit, if_neg (by omega)]) (fun p hp => by rw [setL_get' _ _ _ _ hfit, if_pos (by omega)]; congr 1; omega)⟩⟩
      have hm := s1.mem.turn (e := .arr k xs) (e' := .arr k (xs ++ ys)) hi1 ⟨rfl, hc0⟩ hw3 he fun b hb => hb.1
      exact hk γ H _ _ _ w' (s1.turn (d := d) (V := .arr i k (xs.length + ys.length)) hi1 ⟨rfl, hc0⟩ hm hN (.arr i k _ _ hroom fun _ => rfl)) kk
    · have hx0 : xs.length = 0 := by omega
      have hy0 : ys.length = 0 := by omega
      have hx0' : xs = [] := List.length_eq_zero_iff.1 hx0
      have hy0' : ys = [] := List.length_eq_zero_iff.1 hy0
      subst hx0'; subst hy0'
      have hv0 : vs = [] := List.length_eq_zero_iff.1 (by rw [hvl]; simp)
      subst hv0
      have hrun' : (Builtin.append_ #[st, xt] ty #[.slice A 0 (γ i).n, a.eval y]).run X.P w = .ok (.slice A 0 (γ i).n) w := by
        simp only [List.length_nil] at hrun
        rw [hrun]; cases A <;> simp [storeCells]
      rw [semAt_of (by simp), hexec _ hrun', Result.andThen_ok, Oper.uponIn_value]
      have key := s1.calm (d := d) (V := .arr i k 0) (v := .slice A 0 (γ i).n) (s1.mem.refl γ) hN (.arr i k 0 A (Nat.zero_le _) hA)
      exact hk γ H _ _ _ w (key.wk (Wk.refl _) (Wk.cons hi1 (Wk.refl _))) kk
  · have hs : ∃ us : List Value, us.length = xs.length * k ∧ (∀ w' : World, w'.heap = w.heap → (Builtin.firstCells k xs.length (.slice A xs.length (γ i).n)).run X.P w' = .ok us.toArray w') ∧
        ∀ (j l : Nat) (cs : List D) (a : D) (u : Value), xs[j]? = some cs → cs[l]? = some a → us[j * k + l]? = some u → RepD H a u := by
      by_cases hc0 : 0 < (γ i).n
      · have hA' := hA hc0
        subst hA'
        obtain ⟨tt, us, h3, h4, h5⟩ := hreal hc0
        have hlt : xs.length * k ≤ us.length := by rw [h4]; exact Nat.mul_le_mul_right _ hle
        refine ⟨us.take (xs.length * k), by simp; omega, fun w' hw' => ?_, fun j l cs a u hj hl hu => ?_⟩
        · have := load_cells (P := X.P) (w := w') (b := (γ i).b) (vs := fun p => us.getD p undef) (xs.length * k) 0 0 #[] (fun p hp => by
            have h6 : w'.heap[(γ i).b]? = some (.cells us.toArray tt (0, 0)) := by rw [hw']; exact h3
            rw [cell_of_block h6]; simp [List.getElem?_eq_getElem (show p < us.length by omega)])
          simp only [Builtin.firstCells, loadCells]
          rw [this]
          congr 1
          apply Array.toList_inj.1
          simp only [List.nil_append, List.append_toArray, List.toList_toArray, Array.toList_append]
          apply List.ext_getElem?
          intro p
          simp only [List.getElem?_map, List.getElem?_take]
          by_cases hp : p < xs.length * k
          · rw [if_pos hp, List.getElem?_range' (by omega)]
            simp [List.getElem?_eq_getElem (show p < us.length by omega)]
          · rw [if_neg hp, List.getElem?_eq_none (by simp; omega)]; rfl
        · rw [List.getElem?_take] at hu
          split at hu
          · exact h5 j l cs a u hj hl hu
          · cases hu
      · have hx0' : xs = [] := List.length_eq_zero_iff.1 (by omega)
        subst hx0'
        refine ⟨[], by simp, fun w' _ => ?_, by simp⟩
        cases A <;> simp [Builtin.firstCells, loadCells, loadCellsFrom]
    obtain ⟨us, hul, hus, hurep⟩ := hs
    have hfc' : ∀ w' : World, w'.heap = w.heap → (Builtin.firstCells k ys.length (a.eval y)).run X.P w' = .ok vs.toArray w' := fun w' hw' => hfc w' fun b o v h => by
      have := s.mem.hok.c b o v h
      simp only [World.cell?, hw'] at this ⊢; exact this
    obtain ⟨cap, hcap, hrun⟩ := append_grow (P := X.P) (w := w) (ty := ty) (A := A) (n := xs.length) (c := (γ i).n) (us := us) (vs := vs) hu hxu hz hzv hb (fun w => by rw [hqy]; exact lenOf_sl) hfc' hus (by omega) hbytes hb0
    rw [semAt_of (by simp), hexec _ hrun, Result.andThen_ok, Oper.uponIn_value]
    have hzc : (Builtin.zeroCells z.cells (cap - (xs.length + ys.length))).toList.length = (cap - (xs.length + ys.length)) * k := by
      simp [Builtin.zeroCells, hzl]
    have hm := s.mem.drew.new i (.arr k (xs ++ ys)) (.cells (us ++ vs ++ (Builtin.zeroCells z.cells (cap - (xs.length + ys.length))).toList).toArray el) cap
      ⟨by rw [upd_same, List.length_append]; exact hcap, fun cs hcs => by rcases List.mem_append.1 hcs with h | h; exact hxk cs h; exact hyk cs h, fun _ => by
        rw [upd_same]
        refine ⟨el, _, World.alloc_heap_new _ _, ?_, ?_⟩
        · rw [List.length_append, List.length_append, hzc, hul, hvl, ← Nat.add_mul, ← Nat.add_mul]
          congr 1
          show xs.length + ys.length + (cap - (xs.length + ys.length)) = cap
          omega
        · refine arr_snoc hxk hyk hurep hvrep (fun p hp => ?_) (fun p hp => ?_)
          · rw [List.append_assoc, List.getElem?_append_left (by omega)]
          · rw [List.append_assoc, List.getElem?_append_right (by omega), hul, show xs.length * k + p - xs.length * k = p from by omega, List.getElem?_append_left (by omega)]⟩ (fun _ _ h => by cases h)
    have hm' : Mem w H (fun _ => False) (upd γ i ⟨w.heap.size, cap, fun _ => False⟩) H [(i, .arr k (xs ++ ys))] (w.drew.alloc (.cells (us ++ vs ++ (Builtin.zeroCells z.cells (cap - (xs.length + ys.length))).toList).toArray el)) :=
      ⟨⟨hm.keep.os, hm.keep.tape, hm.keep.output, hm.keep.size, hm.keep.block⟩, hm.hle, ⟨hm.hnew.c, hm.hnew.m⟩, hm.hok, hm.ent, hm.free, hm.fresh, hm.apart⟩
    refine hk _ H _ _ _ _ (s.moved hi hpin hm' (V := .arr i k (xs.length + ys.length)) hN ?_) kk
    have := Rep.arr (γ := upd γ i ⟨w.heap.size, cap, fun _ => False⟩) (H := H) i k (xs.length + ys.length) (some ⟨w.heap.size, 0, none⟩)
    rw [upd_same] at this
    exact this hcap (fun _ => rfl)
/-- A nil slice, as a row of nothing. -/
theorem SJ.nilArr (i j k : Nat) (hj : look j t = some (.d (.v (.slice none 0 0)))) (hf : isFresh i t σ X.pin = true) : SJ X t σ ((j, .arr i k 0) :: t) ((i, .arr k []) :: σ) := fun γ H a w s => by
  have hm : Mem w H (fun _ => False) (upd γ i ⟨w.heap.size, 0, fun _ => False⟩) H [(i, .arr k [])] w := by
    have one : ∀ j f, look j ([(i, Ent.arr k [])] : Sg) = some f → j = i ∧ f = .arr k [] := fun j f hj => by
      rw [look_cons] at hj
      split at hj
      · next e' => exact ⟨e', by simpa using hj.symm⟩
      · simp [look] at hj
    refine ⟨Keeps.refl _ _, HLe.refl _, HNew.refl _ _ _, s.mem.hok, fun j f hj => ?_, fun j f hj b hb => ?_, fun j f hj b hb => ?_, fun j f l f' b hj hl hb hb' => ?_⟩
    · obtain ⟨rfl, rfl⟩ := one j f hj
      refine ⟨Nat.zero_le _, fun _ h => by simp at h, fun h => ?_⟩
      rw [upd_same] at h; simp at h
    · obtain ⟨rfl, rfl⟩ := one j f hj
      have := hb.2; rw [upd_same] at this; simp at this
    · obtain ⟨rfl, rfl⟩ := one j f hj
      have := hb.2; rw [upd_same] at this; simp at this
    · obtain ⟨rfl, rfl⟩ := one j f hj
      have := hb.2; rw [upd_same] at this; simp at this
  have key := s.new (d := none) (V := .junk) (v := undef) (n := 0) hm hf rfl (.junk _)
  refine ⟨_, H, key.tmps fun l b hl => ?_⟩
  rw [look_cons] at hl
  split at hl
  · next e =>
    subst e
    simp only [Option.some.injEq] at hl; subst hl
    obtain ⟨u, hu, r⟩ := s.tmp _ _ hj
    obtain rfl := rep_v r
    refine ⟨_, hu, ?_⟩
    have := Rep.arr (γ := upd γ i ⟨w.heap.size, 0, fun _ => False⟩) (H := H) i k 0 none
    rw [upd_same] at this
    exact this (Nat.zero_le _) (fun h => by simp at h)
  · exact key.tmp l b hl
end append
end Go.Gv
