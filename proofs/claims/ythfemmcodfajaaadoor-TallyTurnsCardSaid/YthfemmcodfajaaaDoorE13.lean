/- Contracts of the functions on tallies: put, take. -/
import Derived.Test.YthfemmcodfajaaaDoorE12
set_option linter.unusedVariables false
set_option linter.unusedSimpArgs false
open Go Go.Gv Go.Gv.Fl
attribute [local irreducible] Go.Gv.WJ Go.Gv.OpJ Go.Gv.QJ Go.Gv.Spl Go.Gv.Req Go.Gv.IdxP Go.Gv.RegP Go.Gv.FinP Go.Gv.QuietP Go.Gv.CellP Go.Gv.CellsP Go.Gv.ArrP Go.Gv.ArrsP Go.Gv.DropP Go.Gv.ByteP Go.Gv.StoreP
set_option maxRecDepth 100000
namespace Go.Proofs.E
theorem mul_rng {a b m n : Int} (h1 : 1 ≤ a) (h2 : a ≤ m) (h3 : 1 ≤ b) (h4 : b ≤ n) : 1 ≤ a * b ∧ a * b ≤ m * n :=
  ⟨by have := Int.mul_le_mul h1 h3 (by omega) (by omega); simpa using this, Int.mul_le_mul h2 h4 (by omega) (by omega)⟩
theorem one_rng {x : ID} (h : mayI x = true) : (1 ≤ x.c * x.c ∧ x.c * x.c ≤ 1099511627776) ∧ (1 ≤ x.s * x.s ∧ x.s * x.s ≤ 1000000) ∧ (1 ≤ x.c * x.s ∧ x.c * x.s ≤ 1048576000) ∧ (1 ≤ x.s * x.c ∧ x.s * x.c ≤ 1048576000) := by
  obtain ⟨a1, a2, a3, a4⟩ := mayI_iff h
  exact ⟨mul_rng a1 a2 a1 a2, mul_rng a3 a4 a3 a4, mul_rng a1 a2 a3 a4, mul_rng a3 a4 a1 a2⟩
theorem one_ok {x : ID} (h : mayI x = true) : (TL.one x).ok := by
  obtain ⟨a1, a2, a3, a4⟩ := mayI_iff h
  obtain ⟨h1, h2, h3, h4⟩ := one_rng h
  unfold TL.ok TL.one
  simp only
  refine ⟨by omega, by omega, ?_, ?_, ?_, ?_⟩
  · show x.c.natAbs ≤ 1 * 1048576; omega
  · show x.s.natAbs ≤ 1 * 1000; omega
  · show (x.c * x.c - x.s * x.s).natAbs ≤ 1 * 1099511627776; omega
  · show (x.c * x.s + x.s * x.c).natAbs ≤ 1 * 2147483648; omega
theorem PutT_c (t : TL) (x : ID) (h : t.ok) : Cv 37 [tlv t, idv x] (if mayI x = true then (if t.n + (TL.one x).n ≤ 4096 then .tup [tlv (t.add (TL.one x)), iv 0] else .tup [tlv TL.zero, iv 7]) else .tup [tlv TL.zero, iv 2]) := by
  refine Ct.of_vc Tryd.f37 Tryd.func37 rfl rfl fun w H B g0 => ?_
  refine OpJ.callV (Check_c x) (fun _ _ => rfl) rfl rfl rfl ?_
  (repeat (first | refine Spl.t rfl ?_ | refine Spl.f rfl ?_))
  refine Spl.of (fun e => ?_) (fun e => ?_)
  · have hm : ¬ mayI x = true := fun y => by simp [checkI, y] at e
    rw [if_neg hm]
    refine FinP.open rfl ?_
    show AV.tup [_, iv (checkI x)] = _
    rw [checkI, if_neg hm]; rfl
  · have hm : mayI x = true := by
      cases y : mayI x with
      | true => rfl
      | false => simp [checkI, y] at e
    obtain ⟨a1, a2, a3, a4⟩ := mayI_iff hm
    obtain ⟨h1, h2, h3, h4⟩ := one_rng hm
    rw [if_pos hm]
    (repeat (first | refine Spl.t rfl ?_ | refine Spl.f rfl ?_))
    refine OpJ.callV (OfT_c x) (fun _ _ => rfl) rfl rfl rfl ?_
    (repeat (first | refine Spl.t rfl ?_ | refine Spl.f rfl ?_))
    refine OpJ.qu (O.bin rfl rfl (Gv.B.cmul (by unfold sm; omega) (by unfold sm; omega) (by unfold sm; omega) (by unfold sm; omega) (by omega) (by omega) (by omega) (by omega) (by unfold sm; omega) (by unfold sm; omega) (by unfold sm; omega) (by unfold sm; omega) (by unfold sm; omega) (by unfold sm; omega))) rfl ?_
    have hc := And_c t (TL.one x) h (one_ok hm)
    by_cases hn : t.n + (TL.one x).n ≤ 4096
    · rw [if_pos hn] at hc ⊢
      refine OpJ.callV hc (fun _ _ => rfl) rfl rfl rfl ?_
      exact FinP.open rfl rfl
    · rw [if_neg hn] at hc ⊢
      refine OpJ.callV hc (fun _ _ => rfl) rfl rfl rfl ?_
      exact FinP.open rfl rfl
theorem TakeT_c (t : TL) (x : ID) (h : t.ok) : Cv 40 [tlv t, idv x] (if mayI x = true then (if t.n = 0 then .tup [tlv TL.zero, iv 6] else .tup [tlv (t.sub (TL.one x)), iv 0]) else .tup [tlv TL.zero, iv 2]) := by
  refine Ct.of_vc Tryd.f40 Tryd.func40 rfl rfl fun w H B g0 => ?_
  refine OpJ.callV (Check_c x) (fun _ _ => rfl) rfl rfl rfl ?_
  (repeat (first | refine Spl.t rfl ?_ | refine Spl.f rfl ?_))
  refine Spl.of (fun e => ?_) (fun e => ?_)
  · have hm : ¬ mayI x = true := fun y => by simp [checkI, y] at e
    rw [if_neg hm]
    refine FinP.open rfl ?_
    show AV.tup [_, iv (checkI x)] = _
    rw [checkI, if_neg hm]; rfl
  · have hm : mayI x = true := by
      cases y : mayI x with
      | true => rfl
      | false => simp [checkI, y] at e
    obtain ⟨a1, a2, a3, a4⟩ := mayI_iff hm
    obtain ⟨h1, h2, h3, h4⟩ := one_rng hm
    rw [if_pos hm]
    (repeat (first | refine Spl.t rfl ?_ | refine Spl.f rfl ?_))
    refine Spl.of (fun e0 => ?_) (fun e0 => ?_)
    · rw [if_pos (of_decide_eq_true e0)]
      exact FinP.open rfl rfl
    · have hn : t.n ≠ 0 := of_decide_eq_false e0
      rw [if_neg hn]
      obtain ⟨b1, b2, b3, b4⟩ := TL.ok_sm h
      obtain ⟨k1, k2, k3, k4, k5, k6⟩ := h
      (repeat (first | refine Spl.t rfl ?_ | refine Spl.f rfl ?_))
      refine OpJ.callV (OfT_c x) (fun _ _ => rfl) rfl rfl rfl ?_
      (repeat (first | refine Spl.t rfl ?_ | refine Spl.f rfl ?_))
      refine OpJ.qu (O.bin rfl rfl (Gv.B.csub b1 b2 (by unfold sm; omega) (by unfold sm; omega) (by unfold sm; omega) (by unfold sm; omega))) rfl ?_
      refine OpJ.qu (O.bin rfl rfl (Gv.B.cmul (by unfold sm; omega) (by unfold sm; omega) (by unfold sm; omega) (by unfold sm; omega) (by omega) (by omega) (by omega) (by omega) (by unfold sm; omega) (by unfold sm; omega) (by unfold sm; omega) (by unfold sm; omega) (by unfold sm; omega) (by unfold sm; omega))) rfl ?_
      refine OpJ.qu (O.bin rfl rfl (Gv.B.csub b3 b4 (by unfold sm; omega) (by unfold sm; omega) (by unfold sm; omega) (by unfold sm; omega))) rfl ?_
      refine FinP.open rfl ?_
      show AV.tup [.agg [iv (IntKind.i64.wrap (t.n - 1)), _, _], _] = _
      rw [wrap_id _ (by omega) (by omega)]; rfl
end Go.Proofs.E
