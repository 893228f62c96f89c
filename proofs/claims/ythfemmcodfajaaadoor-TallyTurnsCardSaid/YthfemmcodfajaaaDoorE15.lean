/- The laws on tallies: the example; TallyFull. -/
import Derived.Test.YthfemmcodfajaaaDoorE14
set_option linter.unusedVariables false
set_option linter.unusedSimpArgs false
open Go Go.Gv Go.Gv.Fl
attribute [local irreducible] Go.Gv.WJ Go.Gv.OpJ Go.Gv.QJ Go.Gv.Spl Go.Gv.Req Go.Gv.IdxP Go.Gv.RegP Go.Gv.FinP Go.Gv.QuietP Go.Gv.CellP Go.Gv.CellsP Go.Gv.ArrP Go.Gv.ArrsP Go.Gv.DropP Go.Gv.ByteP Go.Gv.StoreP
set_option maxRecDepth 100000
namespace Go.Proofs.E
theorem Awake2_c : Cv 36 [] (bv true) := by
  have h0 : TL.zero.ok := by unfold TL.ok; decide
  have hp := PutT_c TL.zero ⟨3, 2⟩ h0
  rw [if_pos (by decide), if_pos (by decide)] at hp
  refine Ct.of_vc Tryd.f36 Tryd.func36 rfl rfl fun w H B g0 => ?_
  refine OpJ.callV hp (fun _ _ => rfl) rfl rfl rfl ?_
  refine OpJ.callV Awake_c (fun _ _ => rfl) rfl rfl rfl ?_
  (repeat (first | refine Spl.t rfl ?_ | refine Spl.f rfl ?_))
  refine OpJ.callV (StringT_c _ (by unfold TL.ok; decide)) (fun _ _ => rfl) rfl rfl rfl ?_
  (repeat (first | refine Spl.t rfl ?_ | refine Spl.f rfl ?_))
  refine FinP.open rfl (congrArg bv ?_)
  decide +kernel
def TL.mul (k : Int) (x : ID) : TL := ⟨k, k * x.c, k * x.s, k * (x.c * x.c - x.s * x.s), k * (x.c * x.s + x.s * x.c)⟩
theorem TL.mul_one (x : ID) : TL.mul 1 x = TL.one x := by simp [TL.mul, TL.one]
theorem TL.mul_two (k : Int) (x : ID) : (TL.mul k x).add (TL.mul k x) = TL.mul (2 * k) x := by
  simp only [TL.mul, TL.add, TL.mk.injEq]
  refine ⟨by omega, ?_, ?_, ?_, ?_⟩ <;> rw [Int.mul_assoc] <;> omega
theorem abs_mul {k z : Int} {m : Nat} (h0 : 0 ≤ k) (h : z.natAbs ≤ m) : (k * z).natAbs ≤ k.toNat * m := by
  rw [Int.natAbs_mul]
  have : k.natAbs = k.toNat := by omega
  rw [this]
  exact Nat.mul_le_mul_left _ h
theorem TL.mul_ok {k : Int} {x : ID} (h0 : 0 ≤ k) (h1 : k ≤ 4096) (h : mayI x = true) : (TL.mul k x).ok := by
  obtain ⟨_, _, a1, a2, a3, a4⟩ := one_ok h
  simp only [TL.one] at a1 a2 a3 a4
  unfold TL.ok TL.mul
  exact ⟨h0, h1, abs_mul h0 (by simpa using a1), abs_mul h0 (by simpa using a2), abs_mul h0 (by simpa using a3), abs_mul h0 (by simpa using a4)⟩
theorem TL.back (t : TL) (x : ID) : (t.sub (TL.one x)).add (TL.one x) = t := by
  simp only [TL.sub, TL.add, TL.one]
  cases t
  simp
theorem TallyFull_c (n : Int) (a : ID) : Cv 8 [.d (.v (.int .u8 n)), idv a] (bv true) := by
  have h0 : TL.zero.ok := by unfold TL.ok; decide
  refine Ct.of_vc Tryd.f8 Tryd.func8 rfl rfl fun w H B g0 => ?_
  refine OpJ.callV (Of_c a) (fun _ _ => rfl) rfl rfl rfl ?_
  refine OpJ.callV (May_c a) (fun _ _ => rfl) rfl rfl rfl ?_
  refine Spl.of (fun h => ?_) (fun h => ?_)
  · (repeat (first | refine Spl.t rfl ?_ | refine Spl.f rfl ?_))
    refine OpJ.callV Awake2_c (fun _ _ => rfl) rfl rfl rfl ?_
    exact FinP.open rfl rfl
  · have hm : mayI a = true := by simpa using h
    obtain ⟨a1, a2, a3, a4⟩ := mayI_iff hm
    (repeat (first | refine Spl.t rfl ?_ | refine Spl.f rfl ?_))
    have hp := PutT_c TL.zero a h0
    rw [if_pos hm, if_pos (by show (0 : Int) + 1 ≤ 4096; decide)] at hp
    have e0 : TL.zero.add (TL.one a) = TL.mul (2 ^ 0) a := by simp [TL.zero, TL.add, TL.one, TL.mul]
    rw [e0] at hp
    refine OpJ.callV hp (fun _ _ => rfl) rfl rfl rfl ?_
    refine WJ.loopK (V := Nat) (fun i => [(24, iv i)]) (fun i => [(5, .cells (avCells (tlv (TL.mul (2 ^ i) a))))]) [5] (fun i => 12 - i) (fun i => i ≤ 12) 0 (by omega) (by repeat' (first | exact trivial | exact rfl | refine And.intro ?_ ?_)) (by repeat' (first | exact trivial | exact rfl | refine And.intro ?_ ?_)) ?_
    intro i hi
    have hpow : ∀ j : Nat, j ≤ 12 → (2 : Int) ^ j ≤ 4096 ∧ 0 ≤ (2 : Int) ^ j := fun j hj =>
      (by decide : ∀ j : Fin 13, (2 : Int) ^ (j : Nat) ≤ 4096 ∧ 0 ≤ (2 : Int) ^ (j : Nat)) ⟨j, by omega⟩
    refine Spl.of (fun h => ?_) (fun h => ?_)
    · have hlt : i < 12 := by have := of_decide_eq_true h; omega
      have hk := TL.mul_ok (hpow i hi).2 (hpow i hi).1 hm
      have h2 := (hpow (i + 1) (by omega)).1
      have ha := And_c (TL.mul (2 ^ i) a) (TL.mul (2 ^ i) a) hk hk
      have e1 : (2 : Int) * 2 ^ i = 2 ^ (i + 1) := by rw [Int.pow_succ]; omega
      rw [if_pos (by show (2 : Int) ^ i + 2 ^ i ≤ 4096; omega), TL.mul_two, e1] at ha
      (repeat (first | refine Spl.t rfl ?_ | refine Spl.f rfl ?_))
      refine OpJ.callV ha (fun _ _ => rfl) rfl rfl rfl ?_
      (repeat (first | refine Spl.t rfl ?_ | refine Spl.f rfl ?_))
      exact ⟨i + 1, by omega, by omega, ⟨some_iv (wrap_id _ (by omega) (by omega)), trivial⟩, (by repeat' (first | exact trivial | exact rfl | refine And.intro ?_ ?_)), (by repeat' (first | exact trivial | exact rfl | refine And.intro ?_ ?_)), (by repeat' (first | exact trivial | exact rfl | refine And.intro ?_ ?_))⟩
    · have he : i = 12 := by have := of_decide_eq_false h; omega
      subst he
      have hk := TL.mul_ok (hpow 12 hi).2 (hpow 12 hi).1 hm
      have h1 := PutT_c _ a hk
      rw [if_pos hm, if_neg (by show ¬ (2 : Int) ^ 12 + 1 ≤ 4096; decide)] at h1
      have h2 := TakeT_c _ a hk
      rw [if_pos hm, if_neg (by show ¬ (2 : Int) ^ 12 = 0; decide)] at h2
      have hs : ((TL.mul (2 ^ 12) a).sub (TL.one a)).ok := by
        have := TL.mul_ok (k := 4095) (by decide) (by decide) hm
        have e : (TL.mul (2 ^ 12) a).sub (TL.one a) = TL.mul 4095 a := by
          simp only [TL.mul, TL.sub, TL.one, TL.mk.injEq]
          refine ⟨by decide, ?_, ?_, ?_, ?_⟩ <;> omega
        rw [e]; exact this
      have h3 := PutT_c _ a hs
      rw [if_pos hm, if_pos (by show (2 : Int) ^ 12 - 1 + 1 ≤ 4096; decide), TL.back] at h3
      (repeat (first | refine Spl.t rfl ?_ | refine Spl.f rfl ?_))
      refine OpJ.callV h1 (fun _ _ => rfl) rfl rfl rfl ?_
      (repeat (first | refine Spl.t rfl ?_ | refine Spl.f rfl ?_))
      refine OpJ.callV h2 (fun _ _ => rfl) rfl rfl rfl ?_
      (repeat (first | refine Spl.t rfl ?_ | refine Spl.f rfl ?_))
      refine OpJ.callV h3 (fun _ _ => rfl) rfl rfl rfl ?_
      (repeat (first | refine Spl.t rfl ?_ | refine Spl.f rfl ?_))
      refine OpJ.callV Awake2_c (fun _ _ => rfl) rfl rfl rfl ?_
      (repeat (first | refine Spl.t rfl ?_ | refine Spl.f rfl ?_))
      refine OpJ.callV (SameT_c _ _ hk hk) (fun _ _ => rfl) rfl rfl rfl ?_
      (repeat (first | refine Spl.t rfl ?_ | refine Spl.f rfl ?_))
      refine Spl.t (by simp) ?_
      (repeat (first | refine Spl.t rfl ?_ | refine Spl.f rfl ?_))
      have c1 : sm (4096 : Int) := by unfold sm; decide
      have c2 : sm a.c := by unfold sm; omega
      have c3 : sm (4096 * a.c) := by unfold sm; omega
      refine OpJ.qu (O.bin rfl rfl (Gv.B.fmul (a := 4096) (b := a.c) c1 c2 (by decide) (by omega) c3)) rfl ?_
      have c4 : sm ((TL.mul (2 ^ 12) a).a) := by show sm ((4096 : Int) * a.c); exact c3
      (repeat (first | refine Spl.t rfl ?_ | refine Spl.f rfl ?_))
      refine OpJ.qu (O.bin rfl rfl (Gv.B.feq (a := (TL.mul (2 ^ 12) a).a) (b := 4096 * a.c) c4 c3)) rfl ?_
      (repeat (first | refine Spl.t rfl ?_ | refine Spl.f rfl ?_))
      exact FinP.open rfl (congrArg bv (decide_eq_true (show (4096 : Int) * a.c = 4096 * a.c from rfl)))
end Go.Proofs.E
