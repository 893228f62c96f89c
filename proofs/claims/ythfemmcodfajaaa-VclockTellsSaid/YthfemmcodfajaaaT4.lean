/- The contract of join. -/
import Derived.Test.YthfemmcodfajaaaT3
set_option linter.unusedVariables false
set_option linter.unusedSimpArgs false
open Go Go.Sv
attribute [local irreducible] Go.Sv.WJ Go.Sv.LJ Go.Sv.OpJ Go.Sv.FnC Go.Sv.QJ Go.Sv.CJ
namespace Go.Proofs.T1

theorem Same_c (c d : List Int) (hc : c.length ≤ 1000000000) (hd : d.length ≤ 1000000000) : FnC Try.prog 17 [.d (ints c), .d (ints d)] (fun r _ => r = bv (leqL c d && leqL d c)) := by
  refine FnC.of_wj 13 Try.func17 rfl rfl (by simp) fun w H => ?_
  repeat (first | refine WJ.seq ?_ | refine WJ.region ?_ | refine LJ.done ?_ | refine LJ.no rfl rfl rfl rfl rfl ?_ | ((first | apply LJ.q (hg := rfl) (hN := rfl) | apply LJ.qy (hg := rfl) (hd := rfl) (hb := rfl) (hN := rfl)); (first | exact O.move rfl | exact O.assign rfl | exact O.pick rfl rfl | exact O.bin rfl rfl (fun _ => rfl) rfl | exact O.len rfl rfl rfl | exact O.un rfl (fun _ => rfl) rfl | exact O.extract rfl rfl | exact O.load1 rfl rfl rfl (fun _ => rfl) | exact O.loadP1 rfl rfl (fun _ => rfl) | exact O.fieldB rfl rfl rfl (fun _ => rfl) rfl | exact O.fieldP rfl rfl rfl (fun _ => rfl) rfl | exact O.loadN rfl rfl (fun _ => rfl) (fun _ => rfl) (by decide) | exact O.loadPN rfl (fun _ => rfl) (fun _ => rfl) (by decide) | exact O.nilB rfl | exact O.nilP rfl | exact O.conv rfl (fun _ => rfl) rfl)))
  (first | apply LJ.q (hg := rfl) (hN := rfl) | apply LJ.qy (hg := rfl) (hd := rfl) (hb := rfl) (hN := rfl))
  · exact O.call (Leq_c c d hc) (fun _ _ => rfl) rfl rfl
  repeat (first | refine WJ.seq ?_ | refine WJ.region ?_ | refine LJ.done ?_ | refine LJ.no rfl rfl rfl rfl rfl ?_ | ((first | apply LJ.q (hg := rfl) (hN := rfl) | apply LJ.qy (hg := rfl) (hd := rfl) (hb := rfl) (hN := rfl)); (first | exact O.move rfl | exact O.assign rfl | exact O.pick rfl rfl | exact O.bin rfl rfl (fun _ => rfl) rfl | exact O.len rfl rfl rfl | exact O.un rfl (fun _ => rfl) rfl | exact O.extract rfl rfl | exact O.load1 rfl rfl rfl (fun _ => rfl) | exact O.loadP1 rfl rfl (fun _ => rfl) | exact O.fieldB rfl rfl rfl (fun _ => rfl) rfl | exact O.fieldP rfl rfl rfl (fun _ => rfl) rfl | exact O.loadN rfl rfl (fun _ => rfl) (fun _ => rfl) (by decide) | exact O.loadPN rfl (fun _ => rfl) (fun _ => rfl) (by decide) | exact O.nilB rfl | exact O.nilP rfl | exact O.conv rfl (fun _ => rfl) rfl)))
  refine LJ.split 8 rfl (fun h => ?_) (fun h => ?_)
  · repeat (first | refine WJ.seq ?_ | refine WJ.region ?_ | refine LJ.done ?_ | refine LJ.no rfl rfl rfl rfl rfl ?_ | ((first | apply LJ.q (hg := rfl) (hN := rfl) | apply LJ.qy (hg := rfl) (hd := rfl) (hb := rfl) (hN := rfl)); (first | exact O.move rfl | exact O.assign rfl | exact O.pick rfl rfl | exact O.bin rfl rfl (fun _ => rfl) rfl | exact O.len rfl rfl rfl | exact O.un rfl (fun _ => rfl) rfl | exact O.extract rfl rfl | exact O.load1 rfl rfl rfl (fun _ => rfl) | exact O.loadP1 rfl rfl (fun _ => rfl) | exact O.fieldB rfl rfl rfl (fun _ => rfl) rfl | exact O.fieldP rfl rfl rfl (fun _ => rfl) rfl | exact O.loadN rfl rfl (fun _ => rfl) (fun _ => rfl) (by decide) | exact O.loadPN rfl (fun _ => rfl) (fun _ => rfl) (by decide) | exact O.nilB rfl | exact O.nilP rfl | exact O.conv rfl (fun _ => rfl) rfl)))
    (first | apply LJ.q (hg := rfl) (hN := rfl) | apply LJ.qy (hg := rfl) (hd := rfl) (hb := rfl) (hN := rfl))
    · exact O.call (Leq_c d c hd) (fun _ _ => rfl) rfl rfl
    repeat (first | refine WJ.seq ?_ | refine WJ.region ?_ | refine LJ.done ?_ | refine LJ.no rfl rfl rfl rfl rfl ?_ | ((first | apply LJ.q (hg := rfl) (hN := rfl) | apply LJ.qy (hg := rfl) (hd := rfl) (hb := rfl) (hN := rfl)); (first | exact O.move rfl | exact O.assign rfl | exact O.pick rfl rfl | exact O.bin rfl rfl (fun _ => rfl) rfl | exact O.len rfl rfl rfl | exact O.un rfl (fun _ => rfl) rfl | exact O.extract rfl rfl | exact O.load1 rfl rfl rfl (fun _ => rfl) | exact O.loadP1 rfl rfl (fun _ => rfl) | exact O.fieldB rfl rfl rfl (fun _ => rfl) rfl | exact O.fieldP rfl rfl rfl (fun _ => rfl) rfl | exact O.loadN rfl rfl (fun _ => rfl) (fun _ => rfl) (by decide) | exact O.loadPN rfl (fun _ => rfl) (fun _ => rfl) (by decide) | exact O.nilB rfl | exact O.nilP rfl | exact O.conv rfl (fun _ => rfl) rfl)))
    refine WJ.ret ⟨_, ret_tmp rfl rfl, ?_⟩
    rw [h]; rfl
  · repeat (first | refine WJ.seq ?_ | refine WJ.region ?_ | refine LJ.done ?_ | refine LJ.no rfl rfl rfl rfl rfl ?_ | ((first | apply LJ.q (hg := rfl) (hN := rfl) | apply LJ.qy (hg := rfl) (hd := rfl) (hb := rfl) (hN := rfl)); (first | exact O.move rfl | exact O.assign rfl | exact O.pick rfl rfl | exact O.bin rfl rfl (fun _ => rfl) rfl | exact O.len rfl rfl rfl | exact O.un rfl (fun _ => rfl) rfl | exact O.extract rfl rfl | exact O.load1 rfl rfl rfl (fun _ => rfl) | exact O.loadP1 rfl rfl (fun _ => rfl) | exact O.fieldB rfl rfl rfl (fun _ => rfl) rfl | exact O.fieldP rfl rfl rfl (fun _ => rfl) rfl | exact O.loadN rfl rfl (fun _ => rfl) (fun _ => rfl) (by decide) | exact O.loadPN rfl (fun _ => rfl) (fun _ => rfl) (by decide) | exact O.nilB rfl | exact O.nilP rfl | exact O.conv rfl (fun _ => rfl) rfl)))
    refine WJ.ret ⟨_, ret_tmp rfl rfl, ?_⟩
    rw [h]; rfl

def mayL (l : List Int) : Bool := l.all (fun n => decide (0 ≤ n ∧ n ≤ 1099511627776)) && decide (l.length ≤ 16)

theorem may_c (c : List Int) : FnC Try.prog 7 [.d (ints c)] (fun r _ => r = bv (mayL c)) := by
  refine FnC.of_wj 21 Try.func7 rfl rfl (by simp) fun w H => ?_
  refine SJ.bound (k := 1) (xs := c.map ic) 0 rfl fun hb => ?_
  have hc : c.length ≤ 9223372036854775807 := by simpa using hb
  repeat (first | refine WJ.seq ?_ | refine WJ.region ?_ | refine LJ.done ?_ | refine LJ.no rfl rfl rfl rfl rfl ?_ | ((first | apply LJ.q (hg := rfl) (hN := rfl) | apply LJ.qy (hg := rfl) (hd := rfl) (hb := rfl) (hN := rfl)); (first | exact O.move rfl | exact O.assign rfl | exact O.pick rfl rfl | exact O.bin rfl rfl (fun _ => rfl) rfl | exact O.len rfl rfl rfl | exact O.un rfl (fun _ => rfl) rfl | exact O.extract rfl rfl | exact O.load1 rfl rfl rfl (fun _ => rfl) | exact O.loadP1 rfl rfl (fun _ => rfl) | exact O.fieldB rfl rfl rfl (fun _ => rfl) rfl | exact O.fieldP rfl rfl rfl (fun _ => rfl) rfl | exact O.loadN rfl rfl (fun _ => rfl) (fun _ => rfl) (by decide) | exact O.loadPN rfl (fun _ => rfl) (fun _ => rfl) (by decide) | exact O.nilB rfl | exact O.nilP rfl | exact O.conv rfl (fun _ => rfl) rfl)))
  refine WJ.block ?_
  refine WJ.loopW (V := Nat) (fun k => [(0, .d (ints c)), (5, .d (ints c)), (6, iv c.length), (7, iv k)]) (fun _ => []) (fun k => c.length - k)
    (fun k => k ≤ c.length ∧ ∀ j, j < k → 0 ≤ c.getD j 0 ∧ c.getD j 0 ≤ 1099511627776) 0 ⟨Nat.zero_le _, fun _ h => by omega⟩
    (Wk.cons rfl (Wk.cons rfl (Wk.cons (by show some (iv _) = _; simp) (Wk.cons rfl (Wk.nil _))))) (Wk.nil _) ?_
  rintro k ⟨hk, hall⟩
  repeat (first | refine WJ.seq ?_ | refine WJ.region ?_ | refine LJ.done ?_ | refine LJ.no rfl rfl rfl rfl rfl ?_ | ((first | apply LJ.q (hg := rfl) (hN := rfl) | apply LJ.qy (hg := rfl) (hd := rfl) (hb := rfl) (hN := rfl)); (first | exact O.move rfl | exact O.assign rfl | exact O.pick rfl rfl | exact O.bin rfl rfl (fun _ => rfl) rfl | exact O.len rfl rfl rfl | exact O.un rfl (fun _ => rfl) rfl | exact O.extract rfl rfl | exact O.load1 rfl rfl rfl (fun _ => rfl) | exact O.loadP1 rfl rfl (fun _ => rfl) | exact O.fieldB rfl rfl rfl (fun _ => rfl) rfl | exact O.fieldP rfl rfl rfl (fun _ => rfl) rfl | exact O.loadN rfl rfl (fun _ => rfl) (fun _ => rfl) (by decide) | exact O.loadPN rfl (fun _ => rfl) (fun _ => rfl) (by decide) | exact O.nilB rfl | exact O.nilP rfl | exact O.conv rfl (fun _ => rfl) rfl)))
  refine WJ.cond rfl (fun h => ?_) (fun h => ?_)
  · have hlt : k < c.length := by simpa using h
    have hg : c[k]? = some (c.getD k 0) := by rw [List.getD_eq_getElem?_getD, List.getElem?_eq_getElem hlt]; rfl
    have bad : ¬ (0 ≤ c.getD k 0 ∧ c.getD k 0 ≤ 1099511627776) → mayL c = false := fun hn => by
      have : (c.all fun n => decide (0 ≤ n ∧ n ≤ 1099511627776)) = false := by
        rw [List.all_eq_false]
        refine ⟨c.getD k 0, mem_of_get hg, by simpa using hn⟩
      rw [mayL, this]; rfl
    refine WJ.skip ?_
    repeat (first | refine WJ.seq ?_ | refine WJ.region ?_ | refine LJ.done ?_ | refine LJ.no rfl rfl rfl rfl rfl ?_ | ((first | apply LJ.q (hg := rfl) (hN := rfl) | apply LJ.qy (hg := rfl) (hd := rfl) (hb := rfl) (hN := rfl)); (first | exact O.move rfl | exact O.assign rfl | exact O.pick rfl rfl | exact O.bin rfl rfl (fun _ => rfl) rfl | exact O.len rfl rfl rfl | exact O.un rfl (fun _ => rfl) rfl | exact O.extract rfl rfl | exact O.load1 rfl rfl rfl (fun _ => rfl) | exact O.loadP1 rfl rfl (fun _ => rfl) | exact O.fieldB rfl rfl rfl (fun _ => rfl) rfl | exact O.fieldP rfl rfl rfl (fun _ => rfl) rfl | exact O.loadN rfl rfl (fun _ => rfl) (fun _ => rfl) (by decide) | exact O.loadPN rfl (fun _ => rfl) (fun _ => rfl) (by decide) | exact O.nilB rfl | exact O.nilP rfl | exact O.conv rfl (fun _ => rfl) rfl)))
    refine WJ.block ?_
    repeat (first | refine WJ.seq ?_ | refine WJ.region ?_ | refine LJ.done ?_ | refine LJ.no rfl rfl rfl rfl rfl ?_ | ((first | apply LJ.q (hg := rfl) (hN := rfl) | apply LJ.qy (hg := rfl) (hd := rfl) (hb := rfl) (hN := rfl)); (first | exact O.move rfl | exact O.assign rfl | exact O.pick rfl rfl | exact O.bin rfl rfl (fun _ => rfl) rfl | exact O.len rfl rfl rfl | exact O.un rfl (fun _ => rfl) rfl | exact O.extract rfl rfl | exact O.load1 rfl rfl rfl (fun _ => rfl) | exact O.loadP1 rfl rfl (fun _ => rfl) | exact O.fieldB rfl rfl rfl (fun _ => rfl) rfl | exact O.fieldP rfl rfl rfl (fun _ => rfl) rfl | exact O.loadN rfl rfl (fun _ => rfl) (fun _ => rfl) (by decide) | exact O.loadPN rfl (fun _ => rfl) (fun _ => rfl) (by decide) | exact O.nilB rfl | exact O.nilP rfl | exact O.conv rfl (fun _ => rfl) rfl)))
    (first | apply LJ.q (hg := rfl) (hN := rfl) | apply LJ.qy (hg := rfl) (hd := rfl) (hb := rfl) (hN := rfl))
    · exact O.idx (cs := ic (c.getD k 0)) rfl rfl rfl rfl (fun _ => rfl) (by omega) (by rw [Int.toNat_natCast]; exact get_map hg)
    repeat (first | refine WJ.seq ?_ | refine WJ.region ?_ | refine LJ.done ?_ | refine LJ.no rfl rfl rfl rfl rfl ?_ | ((first | apply LJ.q (hg := rfl) (hN := rfl) | apply LJ.qy (hg := rfl) (hd := rfl) (hb := rfl) (hN := rfl)); (first | exact O.move rfl | exact O.assign rfl | exact O.pick rfl rfl | exact O.bin rfl rfl (fun _ => rfl) rfl | exact O.len rfl rfl rfl | exact O.un rfl (fun _ => rfl) rfl | exact O.extract rfl rfl | exact O.load1 rfl rfl rfl (fun _ => rfl) | exact O.loadP1 rfl rfl (fun _ => rfl) | exact O.fieldB rfl rfl rfl (fun _ => rfl) rfl | exact O.fieldP rfl rfl rfl (fun _ => rfl) rfl | exact O.loadN rfl rfl (fun _ => rfl) (fun _ => rfl) (by decide) | exact O.loadPN rfl (fun _ => rfl) (fun _ => rfl) (by decide) | exact O.nilB rfl | exact O.nilP rfl | exact O.conv rfl (fun _ => rfl) rfl)))
    refine LJ.split 13 rfl (fun h1 => ?_) (fun h1 => ?_)
    · repeat (first | refine WJ.seq ?_ | refine WJ.region ?_ | refine LJ.done ?_ | refine LJ.no rfl rfl rfl rfl rfl ?_ | ((first | apply LJ.q (hg := rfl) (hN := rfl) | apply LJ.qy (hg := rfl) (hd := rfl) (hb := rfl) (hN := rfl)); (first | exact O.move rfl | exact O.assign rfl | exact O.pick rfl rfl | exact O.bin rfl rfl (fun _ => rfl) rfl | exact O.len rfl rfl rfl | exact O.un rfl (fun _ => rfl) rfl | exact O.extract rfl rfl | exact O.load1 rfl rfl rfl (fun _ => rfl) | exact O.loadP1 rfl rfl (fun _ => rfl) | exact O.fieldB rfl rfl rfl (fun _ => rfl) rfl | exact O.fieldP rfl rfl rfl (fun _ => rfl) rfl | exact O.loadN rfl rfl (fun _ => rfl) (fun _ => rfl) (by decide) | exact O.loadPN rfl (fun _ => rfl) (fun _ => rfl) (by decide) | exact O.nilB rfl | exact O.nilP rfl | exact O.conv rfl (fun _ => rfl) rfl)))
      refine WJ.cond rfl (fun _ => ?_) (fun h => by cases h)
      repeat (first | refine WJ.seq ?_ | refine WJ.region ?_ | refine LJ.done ?_ | refine LJ.no rfl rfl rfl rfl rfl ?_ | ((first | apply LJ.q (hg := rfl) (hN := rfl) | apply LJ.qy (hg := rfl) (hd := rfl) (hb := rfl) (hN := rfl)); (first | exact O.move rfl | exact O.assign rfl | exact O.pick rfl rfl | exact O.bin rfl rfl (fun _ => rfl) rfl | exact O.len rfl rfl rfl | exact O.un rfl (fun _ => rfl) rfl | exact O.extract rfl rfl | exact O.load1 rfl rfl rfl (fun _ => rfl) | exact O.loadP1 rfl rfl (fun _ => rfl) | exact O.fieldB rfl rfl rfl (fun _ => rfl) rfl | exact O.fieldP rfl rfl rfl (fun _ => rfl) rfl | exact O.loadN rfl rfl (fun _ => rfl) (fun _ => rfl) (by decide) | exact O.loadPN rfl (fun _ => rfl) (fun _ => rfl) (by decide) | exact O.nilB rfl | exact O.nilP rfl | exact O.conv rfl (fun _ => rfl) rfl)))
      refine WJ.ret ⟨_, ret_tmp rfl rfl, ?_⟩
      rw [bad (fun hx => by have := of_decide_eq_true h1; omega)]; rfl
    · repeat (first | refine WJ.seq ?_ | refine WJ.region ?_ | refine LJ.done ?_ | refine LJ.no rfl rfl rfl rfl rfl ?_ | ((first | apply LJ.q (hg := rfl) (hN := rfl) | apply LJ.qy (hg := rfl) (hd := rfl) (hb := rfl) (hN := rfl)); (first | exact O.move rfl | exact O.assign rfl | exact O.pick rfl rfl | exact O.bin rfl rfl (fun _ => rfl) rfl | exact O.len rfl rfl rfl | exact O.un rfl (fun _ => rfl) rfl | exact O.extract rfl rfl | exact O.load1 rfl rfl rfl (fun _ => rfl) | exact O.loadP1 rfl rfl (fun _ => rfl) | exact O.fieldB rfl rfl rfl (fun _ => rfl) rfl | exact O.fieldP rfl rfl rfl (fun _ => rfl) rfl | exact O.loadN rfl rfl (fun _ => rfl) (fun _ => rfl) (by decide) | exact O.loadPN rfl (fun _ => rfl) (fun _ => rfl) (by decide) | exact O.nilB rfl | exact O.nilP rfl | exact O.conv rfl (fun _ => rfl) rfl)))
      refine WJ.cond rfl (fun h2 => ?_) (fun h2 => ?_)
      · repeat (first | refine WJ.seq ?_ | refine WJ.region ?_ | refine LJ.done ?_ | refine LJ.no rfl rfl rfl rfl rfl ?_ | ((first | apply LJ.q (hg := rfl) (hN := rfl) | apply LJ.qy (hg := rfl) (hd := rfl) (hb := rfl) (hN := rfl)); (first | exact O.move rfl | exact O.assign rfl | exact O.pick rfl rfl | exact O.bin rfl rfl (fun _ => rfl) rfl | exact O.len rfl rfl rfl | exact O.un rfl (fun _ => rfl) rfl | exact O.extract rfl rfl | exact O.load1 rfl rfl rfl (fun _ => rfl) | exact O.loadP1 rfl rfl (fun _ => rfl) | exact O.fieldB rfl rfl rfl (fun _ => rfl) rfl | exact O.fieldP rfl rfl rfl (fun _ => rfl) rfl | exact O.loadN rfl rfl (fun _ => rfl) (fun _ => rfl) (by decide) | exact O.loadPN rfl (fun _ => rfl) (fun _ => rfl) (by decide) | exact O.nilB rfl | exact O.nilP rfl | exact O.conv rfl (fun _ => rfl) rfl)))
        refine WJ.ret ⟨_, ret_tmp rfl rfl, ?_⟩
        rw [bad (fun hx => by have := of_decide_eq_true h2; omega)]; rfl
      · refine WJ.skip ?_
        repeat (first | refine WJ.seq ?_ | refine WJ.region ?_ | refine LJ.done ?_ | refine LJ.no rfl rfl rfl rfl rfl ?_ | ((first | apply LJ.q (hg := rfl) (hN := rfl) | apply LJ.qy (hg := rfl) (hd := rfl) (hb := rfl) (hN := rfl)); (first | exact O.move rfl | exact O.assign rfl | exact O.pick rfl rfl | exact O.bin rfl rfl (fun _ => rfl) rfl | exact O.len rfl rfl rfl | exact O.un rfl (fun _ => rfl) rfl | exact O.extract rfl rfl | exact O.load1 rfl rfl rfl (fun _ => rfl) | exact O.loadP1 rfl rfl (fun _ => rfl) | exact O.fieldB rfl rfl rfl (fun _ => rfl) rfl | exact O.fieldP rfl rfl rfl (fun _ => rfl) rfl | exact O.loadN rfl rfl (fun _ => rfl) (fun _ => rfl) (by decide) | exact O.loadPN rfl (fun _ => rfl) (fun _ => rfl) (by decide) | exact O.nilB rfl | exact O.nilP rfl | exact O.conv rfl (fun _ => rfl) rfl)))
        have h3 := of_decide_eq_false h1
        have h4 := of_decide_eq_false h2
        refine ⟨k + 1, ⟨by omega, fun j hj => ?_⟩, by omega, Wk.cons rfl (Wk.cons rfl (Wk.cons rfl (Wk.cons ?_ (Wk.nil _)))), Wk.nil _⟩
        · by_cases e : j = k
          · subst e; exact ⟨by omega, by omega⟩
          · exact hall j (by omega)
        · show some (iv (IntKind.i64.wrap (k + 1))) = _
          rw [wrap_id _ (by omega) (by omega)]; rfl
  · have hge : c.length ≤ k := by simpa using h
    refine WJ.exit ?_
    show WJ _ _ _ _ _
    repeat (first | refine WJ.seq ?_ | refine WJ.region ?_ | refine LJ.done ?_ | refine LJ.no rfl rfl rfl rfl rfl ?_ | ((first | apply LJ.q (hg := rfl) (hN := rfl) | apply LJ.qy (hg := rfl) (hd := rfl) (hb := rfl) (hN := rfl)); (first | exact O.move rfl | exact O.assign rfl | exact O.pick rfl rfl | exact O.bin rfl rfl (fun _ => rfl) rfl | exact O.len rfl rfl rfl | exact O.un rfl (fun _ => rfl) rfl | exact O.extract rfl rfl | exact O.load1 rfl rfl rfl (fun _ => rfl) | exact O.loadP1 rfl rfl (fun _ => rfl) | exact O.fieldB rfl rfl rfl (fun _ => rfl) rfl | exact O.fieldP rfl rfl rfl (fun _ => rfl) rfl | exact O.loadN rfl rfl (fun _ => rfl) (fun _ => rfl) (by decide) | exact O.loadPN rfl (fun _ => rfl) (fun _ => rfl) (by decide) | exact O.nilB rfl | exact O.nilP rfl | exact O.conv rfl (fun _ => rfl) rfl)))
    refine WJ.ret ⟨_, ret_tmp rfl rfl, ?_⟩
    have e : (c.all fun n => decide (0 ≤ n ∧ n ≤ 1099511627776)) = true := by
      rw [List.all_eq_true]
      intro x hx
      obtain ⟨j, hj, e⟩ := List.getElem_of_mem hx
      have := hall j (by omega)
      rw [List.getD_eq_getElem?_getD, List.getElem?_eq_getElem hj] at this
      exact decide_eq_true (by rw [← e]; exact this)
    have e2 : decide (((c.map ic).length : Int) ≤ 16) = mayL c := by
      rw [mayL, e, Bool.true_and, List.length_map]; exact decide_eq_decide.2 (by omega)
    show bv _ = bv _
    rw [← e2]

def mx (x y : Int) : Int := if y > x then y else x
def jn (w d : List Int) (k : Nat) : List Int := w.mapIdx fun i x => if i < k then mx x (at_ d i) else x
def joinL (c d : List Int) : List Int := jn (wideL c d.length) d (wideL c d.length).length

theorem jn_zero (w d : List Int) : jn w d 0 = w := by
  apply List.ext_getElem?
  intro i
  simp [jn]
theorem jn_len (w d : List Int) (k : Nat) : (jn w d k).length = w.length := by simp [jn]
theorem jn_get (w d : List Int) (k : Nat) (h : k < w.length) : (jn w d k)[k]? = some (w.getD k 0) := by
  simp [jn, List.getD_eq_getElem?_getD, h]
theorem jn_set (w d : List Int) (k : Nat) (h : k < w.length) : (jn w d k).set k (mx (w.getD k 0) (at_ d k)) = jn w d (k + 1) := by
  apply List.ext_getElem?
  intro i
  rw [List.getElem?_set]
  simp only [jn, List.length_mapIdx, List.getElem?_mapIdx]
  by_cases e : k = i
  · subst e
    simp [h, List.getD_eq_getElem?_getD]
  · rw [if_neg e]
    by_cases h1 : i < k
    · simp [h1, show i < k + 1 from by omega]
    · simp [h1, show ¬ i < k + 1 from by omega]

theorem Join_c (c d : List Int) (hc : c.length ≤ 1000000) (hd : d.length ≤ 1000000) : FnA Try.prog 11 [.d (ints c), .d (ints d)] 1 ((joinL c d).map ic) := by
  refine FnC.of_wj 29 Try.func11 rfl rfl (by simp) fun w H => ?_
  repeat (first | refine WJ.seq ?_ | refine WJ.region ?_ | refine LJ.done ?_ | refine LJ.no rfl rfl rfl rfl rfl ?_ | ((first | apply LJ.q (hg := rfl) (hN := rfl) | apply LJ.qy (hg := rfl) (hd := rfl) (hb := rfl) (hN := rfl)); (first | exact O.move rfl | exact O.assign rfl | exact O.pick rfl rfl | exact O.bin rfl rfl (fun _ => rfl) rfl | exact O.len rfl rfl rfl | exact O.un rfl (fun _ => rfl) rfl | exact O.extract rfl rfl | exact O.load1 rfl rfl rfl (fun _ => rfl) | exact O.loadP1 rfl rfl (fun _ => rfl) | exact O.fieldB rfl rfl rfl (fun _ => rfl) rfl | exact O.fieldP rfl rfl rfl (fun _ => rfl) rfl | exact O.loadN rfl rfl (fun _ => rfl) (fun _ => rfl) (by decide) | exact O.loadPN rfl (fun _ => rfl) (fun _ => rfl) (by decide) | exact O.nilB rfl | exact O.nilP rfl | exact O.conv rfl (fun _ => rfl) rfl)))
  have hl := wideL_len c d.length
  refine LJ.op rfl (E.callA 0 (wide_c c ((d.map ic).length : Nat) (by omega) (by simp; omega)) (fun _ _ => rfl) rfl rfl (by simp) rfl ?_)
  have e0 : (List.map ic d).length = d.length := by simp
  rw [e0]
  repeat (first | refine WJ.seq ?_ | refine WJ.region ?_ | refine LJ.done ?_ | refine LJ.no rfl rfl rfl rfl rfl ?_ | ((first | apply LJ.q (hg := rfl) (hN := rfl) | apply LJ.qy (hg := rfl) (hd := rfl) (hb := rfl) (hN := rfl)); (first | exact O.move rfl | exact O.assign rfl | exact O.pick rfl rfl | exact O.bin rfl rfl (fun _ => rfl) rfl | exact O.len rfl rfl rfl | exact O.un rfl (fun _ => rfl) rfl | exact O.extract rfl rfl | exact O.load1 rfl rfl rfl (fun _ => rfl) | exact O.loadP1 rfl rfl (fun _ => rfl) | exact O.fieldB rfl rfl rfl (fun _ => rfl) rfl | exact O.fieldP rfl rfl rfl (fun _ => rfl) rfl | exact O.loadN rfl rfl (fun _ => rfl) (fun _ => rfl) (by decide) | exact O.loadPN rfl (fun _ => rfl) (fun _ => rfl) (by decide) | exact O.nilB rfl | exact O.nilP rfl | exact O.conv rfl (fun _ => rfl) rfl)))
  refine WJ.block ?_
  refine WJ.loopW (V := Nat) (fun k => [(1, .d (ints d)), (5, .arr 0 1 (wideL c d.length).length), (12, iv (wideL c d.length).length), (13, iv k)]) (fun k => [(0, .arr 1 ((jn (wideL c d.length) d k).map ic))]) (fun k => (wideL c d.length).length - k)
    (fun k => k ≤ (wideL c d.length).length) 0 (Nat.zero_le _)
    (Wk.cons rfl (Wk.cons (by show some (AV.arr 0 1 _) = _; simp) (Wk.cons (by show some (iv _) = _; simp) (Wk.cons rfl (Wk.nil _))))) (Wk.cons (by rw [jn_zero]; rfl) (Wk.nil _)) ?_
  intro k hk
  repeat (first | refine WJ.seq ?_ | refine WJ.region ?_ | refine LJ.done ?_ | refine LJ.no rfl rfl rfl rfl rfl ?_ | ((first | apply LJ.q (hg := rfl) (hN := rfl) | apply LJ.qy (hg := rfl) (hd := rfl) (hb := rfl) (hN := rfl)); (first | exact O.move rfl | exact O.assign rfl | exact O.pick rfl rfl | exact O.bin rfl rfl (fun _ => rfl) rfl | exact O.len rfl rfl rfl | exact O.un rfl (fun _ => rfl) rfl | exact O.extract rfl rfl | exact O.load1 rfl rfl rfl (fun _ => rfl) | exact O.loadP1 rfl rfl (fun _ => rfl) | exact O.fieldB rfl rfl rfl (fun _ => rfl) rfl | exact O.fieldP rfl rfl rfl (fun _ => rfl) rfl | exact O.loadN rfl rfl (fun _ => rfl) (fun _ => rfl) (by decide) | exact O.loadPN rfl (fun _ => rfl) (fun _ => rfl) (by decide) | exact O.nilB rfl | exact O.nilP rfl | exact O.conv rfl (fun _ => rfl) rfl)))
  refine WJ.cond rfl (fun h => ?_) (fun h => ?_)
  · have hlt : k < (wideL c d.length).length := by simpa using h
    refine WJ.skip ?_
    repeat (first | refine WJ.seq ?_ | refine WJ.region ?_ | refine LJ.done ?_ | refine LJ.no rfl rfl rfl rfl rfl ?_ | ((first | apply LJ.q (hg := rfl) (hN := rfl) | apply LJ.qy (hg := rfl) (hd := rfl) (hb := rfl) (hN := rfl)); (first | exact O.move rfl | exact O.assign rfl | exact O.pick rfl rfl | exact O.bin rfl rfl (fun _ => rfl) rfl | exact O.len rfl rfl rfl | exact O.un rfl (fun _ => rfl) rfl | exact O.extract rfl rfl | exact O.load1 rfl rfl rfl (fun _ => rfl) | exact O.loadP1 rfl rfl (fun _ => rfl) | exact O.fieldB rfl rfl rfl (fun _ => rfl) rfl | exact O.fieldP rfl rfl rfl (fun _ => rfl) rfl | exact O.loadN rfl rfl (fun _ => rfl) (fun _ => rfl) (by decide) | exact O.loadPN rfl (fun _ => rfl) (fun _ => rfl) (by decide) | exact O.nilB rfl | exact O.nilP rfl | exact O.conv rfl (fun _ => rfl) rfl)))
    refine WJ.block ?_
    repeat (first | refine WJ.seq ?_ | refine WJ.region ?_ | refine LJ.done ?_ | refine LJ.no rfl rfl rfl rfl rfl ?_ | ((first | apply LJ.q (hg := rfl) (hN := rfl) | apply LJ.qy (hg := rfl) (hd := rfl) (hb := rfl) (hN := rfl)); (first | exact O.move rfl | exact O.assign rfl | exact O.pick rfl rfl | exact O.bin rfl rfl (fun _ => rfl) rfl | exact O.len rfl rfl rfl | exact O.un rfl (fun _ => rfl) rfl | exact O.extract rfl rfl | exact O.load1 rfl rfl rfl (fun _ => rfl) | exact O.loadP1 rfl rfl (fun _ => rfl) | exact O.fieldB rfl rfl rfl (fun _ => rfl) rfl | exact O.fieldP rfl rfl rfl (fun _ => rfl) rfl | exact O.loadN rfl rfl (fun _ => rfl) (fun _ => rfl) (by decide) | exact O.loadPN rfl (fun _ => rfl) (fun _ => rfl) (by decide) | exact O.nilB rfl | exact O.nilP rfl | exact O.conv rfl (fun _ => rfl) rfl)))
    refine WJ.calm 10 rfl (by decide +kernel) (by decide) ?_
    repeat (first | refine CJ.no rfl rfl rfl rfl rfl ?_ | ((first | apply CJ.q (hg := rfl) (hN := rfl) | apply CJ.qy (hg := rfl) (hd := rfl) (hb := rfl) (hN := rfl)); (first | exact O.move rfl | exact O.assign rfl | exact O.pick rfl rfl | exact O.bin rfl rfl (fun _ => rfl) rfl | exact O.len rfl rfl rfl | exact O.un rfl (fun _ => rfl) rfl | exact O.extract rfl rfl | exact O.load1 rfl rfl rfl (fun _ => rfl) | exact O.loadP1 rfl rfl (fun _ => rfl) | exact O.fieldB rfl rfl rfl (fun _ => rfl) rfl | exact O.fieldP rfl rfl rfl (fun _ => rfl) rfl | exact O.loadN rfl rfl (fun _ => rfl) (fun _ => rfl) (by decide) | exact O.loadPN rfl (fun _ => rfl) (fun _ => rfl) (by decide) | exact O.nilB rfl | exact O.nilP rfl | exact O.conv rfl (fun _ => rfl) rfl)) | refine CJ.done ?_)
    (first | apply CJ.q (hg := rfl) (hN := rfl) | apply CJ.qy (hg := rfl) (hd := rfl) (hb := rfl) (hN := rfl))
    · exact O.idxA (k := 1) rfl rfl rfl (fun _ => rfl) (by omega) (by simp; omega)
    (first | apply CJ.q (hg := rfl) (hN := rfl) | apply CJ.qy (hg := rfl) (hd := rfl) (hb := rfl) (hN := rfl))
    · exact O.loadA (j := k) (l := 0) rfl rfl (by simp) (get_map (jn_get _ d k hlt)) rfl (fun _ => rfl)
    repeat (first | refine CJ.no rfl rfl rfl rfl rfl ?_ | ((first | apply CJ.q (hg := rfl) (hN := rfl) | apply CJ.qy (hg := rfl) (hd := rfl) (hb := rfl) (hN := rfl)); (first | exact O.move rfl | exact O.assign rfl | exact O.pick rfl rfl | exact O.bin rfl rfl (fun _ => rfl) rfl | exact O.len rfl rfl rfl | exact O.un rfl (fun _ => rfl) rfl | exact O.extract rfl rfl | exact O.load1 rfl rfl rfl (fun _ => rfl) | exact O.loadP1 rfl rfl (fun _ => rfl) | exact O.fieldB rfl rfl rfl (fun _ => rfl) rfl | exact O.fieldP rfl rfl rfl (fun _ => rfl) rfl | exact O.loadN rfl rfl (fun _ => rfl) (fun _ => rfl) (by decide) | exact O.loadPN rfl (fun _ => rfl) (fun _ => rfl) (by decide) | exact O.nilB rfl | exact O.nilP rfl | exact O.conv rfl (fun _ => rfl) rfl)) | refine CJ.done ?_)
    (first | apply CJ.q (hg := rfl) (hN := rfl) | apply CJ.qy (hg := rfl) (hd := rfl) (hb := rfl) (hN := rfl))
    · exact O.call (At_c d k) (fun _ _ => rfl) rfl rfl
    (first | apply CJ.q (hg := rfl) (hN := rfl) | apply CJ.qy (hg := rfl) (hd := rfl) (hb := rfl) (hN := rfl))
    · exact O.bi2 (v := .int .i64 (mx ((wideL c d.length).getD k 0) (at_ d k))) rfl rfl (fun _ _ => rfl) rfl
    repeat (first | refine CJ.no rfl rfl rfl rfl rfl ?_ | ((first | apply CJ.q (hg := rfl) (hN := rfl) | apply CJ.qy (hg := rfl) (hd := rfl) (hb := rfl) (hN := rfl)); (first | exact O.move rfl | exact O.assign rfl | exact O.pick rfl rfl | exact O.bin rfl rfl (fun _ => rfl) rfl | exact O.len rfl rfl rfl | exact O.un rfl (fun _ => rfl) rfl | exact O.extract rfl rfl | exact O.load1 rfl rfl rfl (fun _ => rfl) | exact O.loadP1 rfl rfl (fun _ => rfl) | exact O.fieldB rfl rfl rfl (fun _ => rfl) rfl | exact O.fieldP rfl rfl rfl (fun _ => rfl) rfl | exact O.loadN rfl rfl (fun _ => rfl) (fun _ => rfl) (by decide) | exact O.loadPN rfl (fun _ => rfl) (fun _ => rfl) (by decide) | exact O.nilB rfl | exact O.nilP rfl | exact O.conv rfl (fun _ => rfl) rfl)) | refine CJ.done ?_)
    (first | apply LJ.q (hg := rfl) (hN := rfl) | apply LJ.qy (hg := rfl) (hd := rfl) (hb := rfl) (hN := rfl))
    · exact O.idxA (k := 1) rfl rfl rfl (fun _ => rfl) (by omega) (by simp; omega)
    refine LJ.op rfl (O.storeA rfl rfl rfl (by simp [jn_len]; omega) (fun _ => rfl) ?_)
    repeat (first | refine WJ.seq ?_ | refine WJ.region ?_ | refine LJ.done ?_ | refine LJ.no rfl rfl rfl rfl rfl ?_ | ((first | apply LJ.q (hg := rfl) (hN := rfl) | apply LJ.qy (hg := rfl) (hd := rfl) (hb := rfl) (hN := rfl)); (first | exact O.move rfl | exact O.assign rfl | exact O.pick rfl rfl | exact O.bin rfl rfl (fun _ => rfl) rfl | exact O.len rfl rfl rfl | exact O.un rfl (fun _ => rfl) rfl | exact O.extract rfl rfl | exact O.load1 rfl rfl rfl (fun _ => rfl) | exact O.loadP1 rfl rfl (fun _ => rfl) | exact O.fieldB rfl rfl rfl (fun _ => rfl) rfl | exact O.fieldP rfl rfl rfl (fun _ => rfl) rfl | exact O.loadN rfl rfl (fun _ => rfl) (fun _ => rfl) (by decide) | exact O.loadPN rfl (fun _ => rfl) (fun _ => rfl) (by decide) | exact O.nilB rfl | exact O.nilP rfl | exact O.conv rfl (fun _ => rfl) rfl)))
    refine ⟨k + 1, by omega, by omega, Wk.cons rfl (Wk.cons rfl (Wk.cons rfl (Wk.cons ?_ (Wk.nil _)))), Wk.cons ?_ (Wk.nil _)⟩
    · show some (iv (IntKind.i64.wrap (k + 1))) = _
      rw [wrap_id _ (by omega) (by omega)]; rfl
    · show some (Ent.arr 1 (List.set _ _ (ic _))) = _
      rw [← List.map_set, Int.toNat_natCast, Nat.mul_one, jn_set _ _ _ hlt]
  · have hge : (wideL c d.length).length ≤ k := by simpa using h
    refine WJ.exit ?_
    show WJ _ _ _ _ _
    repeat (first | refine WJ.seq ?_ | refine WJ.region ?_ | refine LJ.done ?_ | refine LJ.no rfl rfl rfl rfl rfl ?_ | ((first | apply LJ.q (hg := rfl) (hN := rfl) | apply LJ.qy (hg := rfl) (hd := rfl) (hb := rfl) (hN := rfl)); (first | exact O.move rfl | exact O.assign rfl | exact O.pick rfl rfl | exact O.bin rfl rfl (fun _ => rfl) rfl | exact O.len rfl rfl rfl | exact O.un rfl (fun _ => rfl) rfl | exact O.extract rfl rfl | exact O.load1 rfl rfl rfl (fun _ => rfl) | exact O.loadP1 rfl rfl (fun _ => rfl) | exact O.fieldB rfl rfl rfl (fun _ => rfl) rfl | exact O.fieldP rfl rfl rfl (fun _ => rfl) rfl | exact O.loadN rfl rfl (fun _ => rfl) (fun _ => rfl) (by decide) | exact O.loadPN rfl (fun _ => rfl) (fun _ => rfl) (by decide) | exact O.nilB rfl | exact O.nilP rfl | exact O.conv rfl (fun _ => rfl) rfl)))
    obtain rfl : k = (wideL c d.length).length := by omega
    refine WJ.ret ⟨_, ret_tmp rfl rfl, 0, ?_, rfl⟩
    simp [joinL, jn_len]
end Go.Proofs.T1
