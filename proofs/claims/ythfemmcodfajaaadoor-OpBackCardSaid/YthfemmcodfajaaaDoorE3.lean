/- Contracts of the functions on operations: what is wrong with one. -/
import Derived.Test.YthfemmcodfajaaaDoorE2
set_option linter.unusedVariables false
set_option linter.unusedSimpArgs false
open Go Go.Gv
attribute [local irreducible] Go.Gv.WJ Go.Gv.OpJ Go.Gv.QJ Go.Gv.Spl Go.Gv.Req Go.Gv.IdxP Go.Gv.RegP Go.Gv.FinP Go.Gv.QuietP Go.Gv.CellP Go.Gv.CellsP Go.Gv.ArrP Go.Gv.ArrsP Go.Gv.DropP Go.Gv.ByteP Go.Gv.StoreP
set_option maxRecDepth 100000
namespace Go.Proofs.E
abbrev cv (n : Int) : AV := .d (.v (.int .i32 n))
structure OP where
  k : Int
  i : ID
  a : ID
  ch : Int
  deriving DecidableEq
abbrev opv (o : OP) : AV := .agg [iv o.k, iv o.i.c, iv o.i.s, iv o.a.c, iv o.a.s, cv o.ch]
abbrev Di (n : Int) : List D := [.v (.int .i64 n)]
def firstI : List Int → Int
  | [] => 0
  | e :: r => if e = 0 then firstI r else e
theorem first_c (es : List Int) (hl : es.length ≤ 1000000000000000000) : Cv 46 [.full 1 (es.map Di)] (iv (firstI es)) := by
  refine Ct.of_vc Tryd.f46 Tryd.func46 rfl rfl fun w H B g0 => ?_
  refine WJ.loopF (V := Nat) (fun v => [(7, iv v)]) (fun _ => []) (fun v => es.length - v) (fun v => v ≤ es.length ∧ firstI es = firstI (es.drop v)) 0 ⟨by omega, rfl⟩ (by repeat' (first | exact trivial | exact rfl | refine And.intro ?_ ?_)) (by repeat' (first | exact trivial | exact rfl | refine And.intro ?_ ?_)) ?_
  rintro i ⟨hi, hI⟩
  refine Spl.of (fun h => ?_) (fun h => ?_)
  · have hlt : i < es.length := by have := of_decide_eq_true h; simp at this; omega
    (repeat (first | refine Spl.t rfl ?_ | refine Spl.f rfl ?_))
    refine IdxP.of (Di es[i]) (by omega) (by simp [hlt]) ?_
    have hd : firstI (es.drop i) = if es[i] = 0 then firstI (es.drop (i + 1)) else es[i] := by rw [List.drop_eq_getElem_cons hlt]; rfl
    refine Spl.of (fun h => ?_) (fun h => ?_)
    · refine FinP.open rfl (congrArg iv ?_)
      rw [hI, hd, if_neg (by simpa using h)]
    · (repeat (first | refine Spl.t rfl ?_ | refine Spl.f rfl ?_))
      refine ⟨i + 1, ⟨by omega, by rw [hI, hd, if_pos (by simpa using h)]⟩, by omega, ⟨some_iv ?_, trivial⟩, (by repeat' (first | exact trivial | exact rfl | refine And.intro ?_ ?_)), (by repeat' (first | exact trivial | exact rfl | refine And.intro ?_ ?_))⟩
      exact wrap_id _ (by omega) (by omega)
  · have hge : i = es.length := by have := of_decide_eq_false h; simp at this; omega
    (repeat (first | refine Spl.t rfl ?_ | refine Spl.f rfl ?_))
    refine FinP.open rfl (congrArg iv ?_)
    rw [hI, hge, List.drop_length]; rfl
theorem when_c (b : Bool) (e : Int) : Cv 47 [bv b, iv e] (iv (if b = true then e else 0)) := by
  refine Ct.of_vc Tryd.f47 Tryd.func47 rfl rfl fun w H B g0 => ?_
  refine Spl.of (fun h => ?_) (fun h => ?_)
  · exact FinP.open rfl (congrArg iv (by rw [if_pos h]))
  · exact FinP.open rfl (congrArg iv (by rw [if_neg (by rw [h]; decide)]))
def validI (n : Int) : Bool := decide (0 ≤ n ∧ n < 55296 ∨ 57343 < n ∧ n ≤ 1114111)
theorem Valid_c (n : Int) : Cv 48 [cv n] (bv (validI n)) := by
  refine Ct.of_vc Tryd.f48 Tryd.func48 rfl rfl fun w H B g0 => ?_
  (repeat' (first | refine Spl.t rfl ?_ | refine Spl.f rfl ?_ | refine Spl.of (fun h => ?_) (fun h => ?_)))
  all_goals refine FinP.open rfl (congrArg bv ?_)
  all_goals unfold validI
  all_goals simp_all
  all_goals omega
theorem Of5_c (o : OP) : Cv 24 [opv o] (opv o) := by
  refine Ct.of_vc Tryd.f24 Tryd.func24 rfl rfl fun w H B g0 => ?_
  refine RegP.of rfl (by decide +kernel) ?_
  refine QuietP.of (QJ.call (Of_c o.i) (fun _ _ => rfl) rfl rfl) ?_
  refine QuietP.of (QJ.call (Of_c o.a) (fun _ _ => rfl) rfl rfl) ?_
  exact FinP.open rfl rfl
/-- What is wrong with an operation. -/
def checkO (o : OP) : Int :=
  if o.k ≠ 0 ∧ o.k ≠ 1 then 1
  else if o.k = 1 ∧ (noneI o.a = false ∨ o.ch ≠ 0) then 1
  else if mayI o.i = false ∨ noneI o.a = false ∧ mayI o.a = false then 2
  else if noneI o.a = false ∧ o.i.c ≤ o.a.c then 3
  else if o.k = 0 ∧ (o.ch < 32 ∨ o.ch > 1114111 ∨ 55296 ≤ o.ch ∧ o.ch ≤ 57343) then 1
  else 0
def anchorO (o : OP) : Int := if noneI o.a = true then 0 else firstI [checkI o.a, if decide (o.i.c ≤ o.a.c) = true then 3 else 0]
def badC (o : OP) : Prop := o.ch < 32 ∨ o.ch > 1114111 ∨ 55296 ≤ o.ch ∧ o.ch ≤ 57343
instance (o : OP) : Decidable (badC o) := by unfold badC; infer_instance
theorem key0 {o : OP} (k0 : o.k = 0) {A : Int} (hA : anchorO o = A) (v : Int) (hv : v = if badC o then 1 else 0) : firstI [checkI o.i, A, v] = checkO o := by
  subst hA
  unfold checkO
  rw [if_neg (by omega), if_neg (by omega)]
  unfold anchorO checkI
  have hb : (o.k = 0 ∧ (o.ch < 32 ∨ o.ch > 1114111 ∨ 55296 ≤ o.ch ∧ o.ch ≤ 57343)) = badC o := by unfold badC; simp [k0]
  simp only [hb]
  subst hv
  by_cases e1 : mayI o.i = true <;> by_cases e2 : mayI o.a = true <;> cases e3 : noneI o.a <;> by_cases e4 : o.i.c ≤ o.a.c <;> by_cases e5 : badC o <;> simp [firstI, e1, e2, e3, e4, e5]
theorem keyV {o : OP} (h : ¬ o.ch < 32) : (if (!validI o.ch) = true then (1 : Int) else 0) = if badC o then 1 else 0 := by
  unfold validI badC
  by_cases e : 0 ≤ o.ch ∧ o.ch < 55296 ∨ 57343 < o.ch ∧ o.ch ≤ 1114111
  · rw [decide_eq_true e]; exact (if_neg (by decide)).trans (if_neg (by omega)).symm
  · rw [decide_eq_false e]; exact (if_pos (by decide)).trans (if_pos (by omega)).symm
set_option maxHeartbeats 2000000 in
theorem Check5_c (o : OP) : Cv 22 [opv o] (iv (checkO o)) := by
  refine Ct.of_vc Tryd.f22 Tryd.func22 rfl rfl fun w H B g0 => ?_
  refine Spl.of (fun h1 => ?_) (fun h1 => ?_)
  · have k1 : o.k = 1 := of_decide_eq_true h1
    refine RegP.of rfl (by decide +kernel) ?_
    refine QuietP.of (QJ.call (None_c o.a) (fun _ _ => rfl) rfl rfl) ?_
    refine Spl.of (fun h2 => ?_) (fun h2 => ?_)
    · have n1 : noneI o.a = false := by simpa using h2
      (repeat (first | refine Spl.t rfl ?_ | refine Spl.f rfl ?_))
      refine QuietP.of (QJ.call (when_c true 1) (fun _ _ => rfl) rfl rfl) ?_
      refine QuietP.of (QJ.call (Check_c o.i) (fun _ _ => rfl) rfl rfl) ?_
      refine QuietP.of (QJ.call (first_c [if true = true then 1 else 0, checkI o.i] (by simp)) (fun _ _ => rfl) rfl rfl) ?_
      refine FinP.open rfl (congrArg iv ?_)
      unfold checkO
      simp [firstI, k1, n1]
    · have n1 : noneI o.a = true := by simpa using h2
      (repeat (first | refine Spl.t rfl ?_ | refine Spl.f rfl ?_))
      refine QuietP.of (QJ.call (when_c (!decide (o.ch = 0)) 1) (fun _ _ => rfl) rfl rfl) ?_
      refine QuietP.of (QJ.call (Check_c o.i) (fun _ _ => rfl) rfl rfl) ?_
      refine QuietP.of (QJ.call (first_c [if (!decide (o.ch = 0)) = true then 1 else 0, checkI o.i] (by simp)) (fun _ _ => rfl) rfl rfl) ?_
      refine FinP.open rfl (congrArg iv ?_)
      unfold checkO checkI
      simp only [firstI, k1, n1]
      by_cases e1 : o.ch = 0 <;> by_cases e2 : mayI o.i = true <;> simp [e1, e2]
  have k1 : o.k ≠ 1 := of_decide_eq_false h1
  (repeat (first | refine Spl.t rfl ?_ | refine Spl.f rfl ?_))
  refine Spl.of (fun h2 => ?_) (fun h2 => ?_)
  · have k0 : o.k = 0 := of_decide_eq_true h2
    (repeat (first | refine Spl.t rfl ?_ | refine Spl.f rfl ?_))
    refine OpJ.callV (None_c o.a) (fun _ _ => rfl) rfl rfl rfl ?_
    refine Spl.of (fun h3 => ?_) (fun h3 => ?_)
    · have n1 : noneI o.a = false := by simpa using h3
      refine RegP.of rfl (by decide +kernel) ?_
      refine QuietP.of (QJ.call (Check_c o.a) (fun _ _ => rfl) rfl rfl) ?_
      refine QuietP.of (QJ.call (when_c (decide (o.i.c ≤ o.a.c)) 3) (fun _ _ => rfl) rfl rfl) ?_
      refine QuietP.of (QJ.call (first_c [checkI o.a, if decide (o.i.c ≤ o.a.c) = true then 3 else 0] (by simp)) (fun _ _ => rfl) rfl rfl) ?_
      have hA : anchorO o = firstI [checkI o.a, if decide (o.i.c ≤ o.a.c) = true then 3 else 0] := by unfold anchorO; rw [if_neg (by rw [n1]; decide)]
      generalize firstI [checkI o.a, if decide (o.i.c ≤ o.a.c) = true then 3 else 0] = A at hA ⊢
      (refine RegP.of rfl (by decide +kernel) ?_; refine QuietP.of (QJ.call (Check_c o.i) (fun _ _ => rfl) rfl rfl) ?_; refine Spl.of (fun h4 => ?_) (fun h4 => ?_))
      · ((repeat (first | refine Spl.t rfl ?_ | refine Spl.f rfl ?_)); refine QuietP.of (QJ.call (when_c true 1) (fun _ _ => rfl) rfl rfl) ?_; refine QuietP.of (QJ.call (first_c [checkI o.i, A, if true = true then 1 else 0] (by simp)) (fun _ _ => rfl) rfl rfl) ?_; refine FinP.open rfl (congrArg iv ?_))
        exact key0 k0 hA _ (by rw [if_pos rfl]; exact (if_pos (.inl (of_decide_eq_true h4))).symm)
      · ((repeat (first | refine Spl.t rfl ?_ | refine Spl.f rfl ?_)); refine QuietP.of (QJ.call (Valid_c o.ch) (fun _ _ => rfl) rfl rfl) ?_; (repeat (first | refine Spl.t rfl ?_ | refine Spl.f rfl ?_)); refine QuietP.of (QJ.call (when_c (!validI o.ch) 1) (fun _ _ => rfl) rfl rfl) ?_; refine QuietP.of (QJ.call (first_c [checkI o.i, A, if (!validI o.ch) = true then 1 else 0] (by simp)) (fun _ _ => rfl) rfl rfl) ?_; refine FinP.open rfl (congrArg iv ?_))
        exact key0 k0 hA _ (keyV (of_decide_eq_false h4))
    · have n1 : noneI o.a = true := by simpa using h3
      (repeat (first | refine Spl.t rfl ?_ | refine Spl.f rfl ?_))
      have hA : anchorO o = 0 := by unfold anchorO; rw [if_pos n1]
      (refine RegP.of rfl (by decide +kernel) ?_; refine QuietP.of (QJ.call (Check_c o.i) (fun _ _ => rfl) rfl rfl) ?_; refine Spl.of (fun h4 => ?_) (fun h4 => ?_))
      · ((repeat (first | refine Spl.t rfl ?_ | refine Spl.f rfl ?_)); refine QuietP.of (QJ.call (when_c true 1) (fun _ _ => rfl) rfl rfl) ?_; refine QuietP.of (QJ.call (first_c [checkI o.i, 0, if true = true then 1 else 0] (by simp)) (fun _ _ => rfl) rfl rfl) ?_; refine FinP.open rfl (congrArg iv ?_))
        exact key0 k0 hA _ (by rw [if_pos rfl]; exact (if_pos (.inl (of_decide_eq_true h4))).symm)
      · ((repeat (first | refine Spl.t rfl ?_ | refine Spl.f rfl ?_)); refine QuietP.of (QJ.call (Valid_c o.ch) (fun _ _ => rfl) rfl rfl) ?_; (repeat (first | refine Spl.t rfl ?_ | refine Spl.f rfl ?_)); refine QuietP.of (QJ.call (when_c (!validI o.ch) 1) (fun _ _ => rfl) rfl rfl) ?_; refine QuietP.of (QJ.call (first_c [checkI o.i, 0, if (!validI o.ch) = true then 1 else 0] (by simp)) (fun _ _ => rfl) rfl rfl) ?_; refine FinP.open rfl (congrArg iv ?_))
        exact key0 k0 hA _ (keyV (of_decide_eq_false h4))
  · (repeat (first | refine Spl.t rfl ?_ | refine Spl.f rfl ?_))
    refine FinP.open rfl (congrArg iv ?_)
    unfold checkO
    rw [if_pos ⟨by simpa using h2, k1⟩]
end Go.Proofs.E
