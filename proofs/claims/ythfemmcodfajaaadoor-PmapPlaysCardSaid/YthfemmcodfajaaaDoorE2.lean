/- Contracts of the reference's digits and text of an id, of the law's example, of the least of some ids. -/
import Derived.Test.YthfemmcodfajaaaDoorE1
set_option linter.unusedVariables false
set_option linter.unusedSimpArgs false
open Go Go.Gv
attribute [local irreducible] Go.Gv.WJ Go.Gv.OpJ Go.Gv.QJ Go.Gv.Spl Go.Gv.Req Go.Gv.IdxP Go.Gv.RegP Go.Gv.FinP Go.Gv.QuietP Go.Gv.CellP Go.Gv.CellsP Go.Gv.ArrP Go.Gv.ArrsP Go.Gv.DropP Go.Gv.ByteP Go.Gv.StoreP
set_option maxRecDepth 100000
namespace Go.Proofs.E
theorem wrap_u8 (x : Int) (h : 0 ≤ x) (h' : x < 256) : IntKind.u8.wrap x = x := by
  simp only [IntKind.wrap, IntKind.signed, IntKind.bits]; simp; omega
def dig (m : Nat) : UInt8 := UInt8.ofNat (48 + m % 10)
theorem Digits_c (n : Nat) (hn : n ≤ 1000000000000000000) : Cv 45 [iv n] (sv (Lib.decDigits n)) := by
  refine Ct.of_vc Tryd.f45 Tryd.func45 rfl rfl fun w H B g0 => ?_
  refine WJ.loopF (V := Nat × List UInt8) (fun v => [(0, iv v.1), (3, sv v.2)]) (fun _ => []) (fun v => 2 * v.1 + (if v.2 = [] then 1 else 0))
    (fun v => v.1 ≤ n ∧ v.2.length + v.1 ≤ 1000000000000000000 + 100 ∧ ((v.2 = [] ∧ v.1 = n) ∨ (v.2 ≠ [] ∧ ((0 < v.1 ∧ Lib.decDigits v.1 ++ v.2 = Lib.decDigits n) ∨ (v.1 = 0 ∧ v.2 = Lib.decDigits n))))) (n, []) ⟨by simp, by simp; omega, .inl ⟨rfl, rfl⟩⟩ (by repeat' (first | exact trivial | exact rfl | refine And.intro ?_ ?_)) (by repeat' (first | exact trivial | exact rfl | refine And.intro ?_ ?_)) ?_
  rintro ⟨m, acc⟩ ⟨hm, hl, hI⟩
  simp only at hm hl hI
  have hrem : (m : Int).tmod 10 = ((m % 10 : Nat) : Int) := by
    rw [Int.tmod_eq_emod_of_nonneg (by omega)]; omega
  have hadd : IntKind.i64.wrap (48 + ((m % 10 : Nat) : Int)) = ((48 + m % 10 : Nat) : Int) := by rw [wrap_id _ (by omega) (by omega)]; omega
  have hu8 : IntKind.u8.wrap ((48 + m % 10 : Nat) : Int) = ((48 + m % 10 : Nat) : Int) := wrap_u8 _ (by omega) (by omega)
  have hquo : IntKind.i64.wrap ((m : Int).tdiv 10) = ((m / 10 : Nat) : Int) := by rw [Int.tdiv_eq_ediv_of_nonneg (by omega), wrap_id _ (by omega) (by omega)]; omega
  have step : (0 < m ∨ acc = []) → (m / 10 ≤ n ∧ (dig m :: acc).length + m / 10 ≤ 1000000000000000000 + 100 ∧ ((dig m :: acc = [] ∧ m / 10 = n) ∨ (dig m :: acc ≠ [] ∧ ((0 < m / 10 ∧ Lib.decDigits (m / 10) ++ (dig m :: acc) = Lib.decDigits n) ∨ (m / 10 = 0 ∧ dig m :: acc = Lib.decDigits n))))) ∧
      2 * (m / 10) + (if dig m :: acc = [] then 1 else 0) < 2 * m + (if acc = [] then 1 else 0) := by
    intro hc
    have hd : Lib.decDigits m = if m < 10 then [dig m] else Lib.decDigits (m / 10) ++ [dig m] := by
      rw [Lib.decDigits]
      split
      · next h => rw [dig, Nat.mod_eq_of_lt h]
      · rfl
    have hall : Lib.decDigits m ++ acc = Lib.decDigits n := by
      rcases hI with ⟨rfl, rfl⟩ | ⟨hne, ⟨_, h⟩ | ⟨h0, _⟩⟩
      · simp
      · exact h
      · rcases hc with h | h
        · omega
        · exact absurd h hne
    refine ⟨⟨by omega, ?_, .inr ⟨by simp, ?_⟩⟩, ?_⟩
    · simp only [List.length_cons]
      rcases hI with ⟨rfl, rfl⟩ | ⟨hne, _⟩
      · simp; omega
      · rcases hc with h | h
        · omega
        · exact absurd h hne
    · by_cases h10 : m < 10
      · right
        rw [hd, if_pos h10] at hall
        exact ⟨by omega, by simpa using hall⟩
      · left
        rw [hd, if_neg h10] at hall
        exact ⟨by omega, by simpa using hall⟩
    · simp only [List.cons_ne_nil, if_false]
      split <;> rcases hc with h | h <;> first | omega | (exact absurd h (by assumption))
  have hstr : strOf [IntKind.u8.wrap (IntKind.i64.wrap (48 + (m : Int).tmod 10))] = ⟨⟨[dig m]⟩⟩ := by rw [hrem, hadd, hu8]; rfl
  have hstr' : (List.map (fun n : Int => UInt8.ofNat n.toNat) [IntKind.u8.wrap (IntKind.i64.wrap (48 + (m : Int).tmod 10))]) ++ acc = dig m :: acc := by rw [hrem, hadd, hu8]; rfl
  refine Spl.of (fun h => ?_) (fun h => ?_)
  · have hpos : 0 < m := by have := of_decide_eq_true h; omega
    obtain ⟨s1, s2⟩ := step (.inl hpos)
    ((repeat (first | refine Spl.t rfl ?_ | refine Spl.f rfl ?_)); refine Req.of (by decide) ?_; refine OpJ.qu (O.bytesStr (ns := [IntKind.u8.wrap (IntKind.i64.wrap (48 + (m : Int).tmod 10))]) rfl rfl rfl rfl rfl rfl) rfl ?_; refine Req.of (by simp; omega) ?_; refine Req.of (by decide) ?_; exact ⟨(m / 10, dig m :: acc), s1, s2, ⟨some_iv hquo, some_sv hstr', trivial⟩, (by repeat' (first | exact trivial | exact rfl | refine And.intro ?_ ?_)), (by repeat' (first | exact trivial | exact rfl | refine And.intro ?_ ?_))⟩)
  · have h0 : m = 0 := by have := of_decide_eq_false h; omega
    (repeat (first | refine Spl.t rfl ?_ | refine Spl.f rfl ?_))
    refine Spl.of (fun h' => ?_) (fun h' => ?_)
    · have hacc : acc = [] := of_decide_eq_true h'
      obtain ⟨s1, s2⟩ := step (.inr hacc)
      ((repeat (first | refine Spl.t rfl ?_ | refine Spl.f rfl ?_)); refine Req.of (by decide) ?_; refine OpJ.qu (O.bytesStr (ns := [IntKind.u8.wrap (IntKind.i64.wrap (48 + (m : Int).tmod 10))]) rfl rfl rfl rfl rfl rfl) rfl ?_; refine Req.of (by simp; omega) ?_; refine Req.of (by decide) ?_; exact ⟨(m / 10, dig m :: acc), s1, s2, ⟨some_iv hquo, some_sv hstr', trivial⟩, (by repeat' (first | exact trivial | exact rfl | refine And.intro ?_ ?_)), (by repeat' (first | exact trivial | exact rfl | refine And.intro ?_ ?_))⟩)
    · have hacc : acc ≠ [] := of_decide_eq_false h'
      refine FinP.open rfl ?_
      rcases hI with ⟨rfl, _⟩ | ⟨_, ⟨h1, _⟩ | ⟨_, h1⟩⟩
      · exact absurd rfl hacc
      · omega
      · show sv acc = _
        rw [h1]

theorem itoa_nat (n : Int) (h : 0 ≤ n) : Lib.itoa n = Lib.decDigits n.toNat := by rw [Lib.itoa, if_neg (by omega)]
theorem DigitsI_c (n : Int) (h : 0 ≤ n) (hn : n ≤ 1000000000000000000) : Cv 45 [iv n] (sv (Lib.itoa n)) := by
  have := Digits_c n.toNat (by omega)
  rw [← itoa_nat n h, Int.toNat_of_nonneg h] at this
  exact this
theorem RText_c (a : ID) : Cv 19 [idv a] (sv (textI a)) := by
  refine Ct.of_vc Tryd.f19 Tryd.func19 rfl rfl fun w H B g0 => ?_
  have none : noneI a = true → textI a = [45] := fun h => if_pos h
  refine Spl.of (fun h => ?_) (fun h => ?_)
  · (repeat (first | refine Spl.t rfl ?_ | refine Spl.f rfl ?_))
    refine Spl.of (fun h' => ?_) (fun h' => ?_)
    · have hn : noneI a = true := decide_eq_true ⟨of_decide_eq_true h, of_decide_eq_true h'⟩
      exact FinP.open rfl (by rw [textI, if_pos hn]; rfl)
    · have hn : ¬ noneI a = true := fun e => of_decide_eq_false h' (of_decide_eq_true e).2
      (refine OpJ.callV (May_c a) (fun _ _ => rfl) rfl rfl rfl ?_; refine Spl.of (fun h2 => ?_) (fun h2 => ?_); (refine FinP.open rfl ?_; have : ¬ mayI a = true := (by simpa using h2); rw [textI, if_neg hn, if_neg this]; rfl); (have hm : mayI a = true := (by simpa using h2); obtain ⟨a1, a2, a3, a4⟩ := mayI_iff hm; have l1 := itoa_len a.c (by omega) (by omega); have l2 := itoa_len a.s (by omega) (by omega); refine RegP.of rfl (by decide +kernel) ?_; refine QuietP.of (QJ.call (DigitsI_c a.c (by omega) (by omega)) (fun _ _ => rfl) rfl rfl) ?_; refine Req.of (by simp; omega) ?_; refine QuietP.of (QJ.call (DigitsI_c a.s (by omega) (by omega)) (fun _ _ => rfl) rfl rfl) ?_; refine Req.of (by simp; omega) ?_; exact FinP.open rfl (by rw [textI, if_neg hn, if_pos hm]; rfl)))
  · have hn : ¬ noneI a = true := fun e => of_decide_eq_false h (of_decide_eq_true e).1
    (repeat (first | refine Spl.t rfl ?_ | refine Spl.f rfl ?_))
    (refine OpJ.callV (May_c a) (fun _ _ => rfl) rfl rfl rfl ?_; refine Spl.of (fun h2 => ?_) (fun h2 => ?_); (refine FinP.open rfl ?_; have : ¬ mayI a = true := (by simpa using h2); rw [textI, if_neg hn, if_neg this]; rfl); (have hm : mayI a = true := (by simpa using h2); obtain ⟨a1, a2, a3, a4⟩ := mayI_iff hm; have l1 := itoa_len a.c (by omega) (by omega); have l2 := itoa_len a.s (by omega) (by omega); refine RegP.of rfl (by decide +kernel) ?_; refine QuietP.of (QJ.call (DigitsI_c a.c (by omega) (by omega)) (fun _ _ => rfl) rfl rfl) ?_; refine Req.of (by simp; omega) ?_; refine QuietP.of (QJ.call (DigitsI_c a.s (by omega) (by omega)) (fun _ _ => rfl) rfl rfl) ?_; refine Req.of (by simp; omega) ?_; exact FinP.open rfl (by rw [textI, if_neg hn, if_pos hm]; rfl)))

theorem Awake_c : Cv 11 [] (bv true) := by
  refine Ct.of_vc Tryd.f11 Tryd.func11 rfl rfl fun w H B g0 => ?_
  refine OpJ.callV (Less_c ⟨3, 2⟩ ⟨4, 1⟩) (fun _ _ => rfl) rfl rfl rfl ?_
  (repeat (first | refine Spl.t rfl ?_ | refine Spl.f rfl ?_))
  refine OpJ.callV (Less_c ⟨3, 2⟩ ⟨3, 1⟩) (fun _ _ => rfl) rfl rfl rfl ?_
  (repeat (first | refine Spl.t rfl ?_ | refine Spl.f rfl ?_))
  refine OpJ.callV (String_c ⟨3, 2⟩) (fun _ _ => rfl) rfl rfl rfl ?_
  (repeat (first | refine Spl.t rfl ?_ | refine Spl.f rfl ?_))
  refine FinP.open rfl (congrArg bv ?_)
  decide +kernel
end Go.Proofs.E
