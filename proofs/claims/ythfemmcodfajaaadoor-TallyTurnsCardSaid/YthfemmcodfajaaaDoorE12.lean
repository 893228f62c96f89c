/- Contracts of the functions on tallies. -/
import Derived.Test.YthfemmcodfajaaaDoorE2
import Derived.Test.YthfemmcodfajaaaDoorGC
set_option linter.unusedVariables false
set_option linter.unusedSimpArgs false
open Go Go.Gv Go.Gv.Fl
attribute [local irreducible] Go.Gv.WJ Go.Gv.OpJ Go.Gv.QJ Go.Gv.Spl Go.Gv.Req Go.Gv.IdxP Go.Gv.RegP Go.Gv.FinP Go.Gv.QuietP Go.Gv.CellP Go.Gv.CellsP Go.Gv.ArrP Go.Gv.ArrsP Go.Gv.DropP Go.Gv.ByteP Go.Gv.StoreP
set_option maxRecDepth 100000
namespace Go.Proofs.E
structure TL where
  n : Int
  a : Int
  b : Int
  c : Int
  d : Int
abbrev tlv (t : TL) : AV := .agg [iv t.n, cx t.a t.b, cx t.c t.d]
def TL.ok (t : TL) : Prop := 0 ≤ t.n ∧ t.n ≤ 4096 ∧ t.a.natAbs ≤ t.n.toNat * 1048576 ∧ t.b.natAbs ≤ t.n.toNat * 1000 ∧ t.c.natAbs ≤ t.n.toNat * 1099511627776 ∧ t.d.natAbs ≤ t.n.toNat * 2147483648
def TL.add (t u : TL) : TL := ⟨t.n + u.n, t.a + u.a, t.b + u.b, t.c + u.c, t.d + u.d⟩
def TL.sub (t u : TL) : TL := ⟨t.n - u.n, t.a - u.a, t.b - u.b, t.c - u.c, t.d - u.d⟩
def TL.one (x : ID) : TL := ⟨1, x.c, x.s, x.c * x.c - x.s * x.s, x.c * x.s + x.s * x.c⟩
def TL.zero : TL := ⟨0, 0, 0, 0, 0⟩
theorem TL.ok_sm {t : TL} (h : t.ok) : sm t.a ∧ sm t.b ∧ sm t.c ∧ sm t.d := by
  obtain ⟨h1, h2, h3, h4, h5, h6⟩ := h
  unfold sm
  refine ⟨?_, ?_, ?_, ?_⟩ <;> omega
theorem TL.ok_add {t u : TL} (h : t.ok) (k : u.ok) (hn : t.n + u.n ≤ 4096) : (t.add u).ok := by
  obtain ⟨h1, h2, h3, h4, h5, h6⟩ := h
  obtain ⟨k1, k2, k3, k4, k5, k6⟩ := k
  unfold TL.ok TL.add
  simp only
  refine ⟨?_, ?_, ?_, ?_, ?_, ?_⟩ <;> omega
theorem OfT_c (x : ID) : Cv 57 [idv x] (cx x.c x.s) := by
  refine Ct.of_vc Tryd.f57 Tryd.func57 rfl rfl fun w H B g0 => ?_
  refine OpJ.qu (O.complex (a := x.c) (b := x.s) rfl rfl) rfl ?_
  exact FinP.open rfl rfl
theorem And_c (t u : TL) (h : t.ok) (k : u.ok) : Cv 38 [tlv t, tlv u] (if t.n + u.n ≤ 4096 then .tup [tlv (t.add u), iv 0] else .tup [tlv TL.zero, iv 7]) := by
  have hw : IntKind.i64.wrap (t.n + u.n) = t.n + u.n := by obtain ⟨_, _, _⟩ := h; obtain ⟨_, _, _⟩ := k; exact wrap_id _ (by omega) (by omega)
  obtain ⟨a1, a2, a3, a4⟩ := TL.ok_sm h
  obtain ⟨b1, b2, b3, b4⟩ := TL.ok_sm k
  refine Ct.of_vc Tryd.f38 Tryd.func38 rfl rfl fun w H B g0 => ?_
  refine Spl.of (fun e => ?_) (fun e => ?_)
  · have : ¬ t.n + u.n ≤ 4096 := by have := of_decide_eq_true e; rw [hw] at this; omega
    rw [if_neg this]
    exact FinP.open rfl rfl
  · have hle : t.n + u.n ≤ 4096 := by have := of_decide_eq_false e; rw [hw] at this; omega
    obtain ⟨c1, c2, c3, c4⟩ := TL.ok_sm (TL.ok_add h k hle)
    rw [if_pos hle]
    (repeat (first | refine Spl.t rfl ?_ | refine Spl.f rfl ?_))
    refine OpJ.qu (O.bin rfl rfl (Gv.B.cadd a1 a2 b1 b2 c1 c2)) rfl ?_
    refine OpJ.qu (O.bin rfl rfl (Gv.B.cadd a3 a4 b3 b4 c3 c4)) rfl ?_
    refine FinP.open rfl ?_
    show AV.tup [.agg [iv (IntKind.i64.wrap (t.n + u.n)), _, _], _] = _
    rw [hw]; rfl
theorem SameT_c (t u : TL) (h : t.ok) (k : u.ok) : Cv 39 [tlv t, tlv u] (bv (decide (t.n = u.n) && (decide (t.a = u.a) && decide (t.b = u.b)) && (decide (t.c = u.c) && decide (t.d = u.d)))) := by
  obtain ⟨a1, a2, a3, a4⟩ := TL.ok_sm h
  obtain ⟨b1, b2, b3, b4⟩ := TL.ok_sm k
  refine Ct.of_vc Tryd.f39 Tryd.func39 rfl rfl fun w H B g0 => ?_
  refine Spl.of (fun e => ?_) (fun e => ?_)
  · (repeat (first | refine Spl.t rfl ?_ | refine Spl.f rfl ?_))
    refine OpJ.qu (O.bin rfl rfl (Gv.B.ceq a1 a2 b1 b2)) rfl ?_
    (repeat (first | refine Spl.t rfl ?_ | refine Spl.f rfl ?_))
    refine Spl.of (fun e2 => ?_) (fun e2 => ?_)
    · (repeat (first | refine Spl.t rfl ?_ | refine Spl.f rfl ?_))
      refine OpJ.qu (O.bin rfl rfl (Gv.B.ceq a3 a4 b3 b4)) rfl ?_
      (repeat (first | refine Spl.t rfl ?_ | refine Spl.f rfl ?_))
      exact FinP.open rfl (congrArg bv (by rw [e, e2]; rfl))
    · (repeat (first | refine Spl.t rfl ?_ | refine Spl.f rfl ?_))
      exact FinP.open rfl (congrArg bv (by rw [e, e2]; rfl))
  · (repeat (first | refine Spl.t rfl ?_ | refine Spl.f rfl ?_))
    exact FinP.open rfl (congrArg bv (by rw [e]; rfl))
end Go.Proofs.E
