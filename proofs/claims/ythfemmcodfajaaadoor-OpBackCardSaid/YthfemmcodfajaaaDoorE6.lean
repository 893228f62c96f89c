/- Operations: their texts, and the law OpChecks. -/
import Derived.Test.YthfemmcodfajaaaDoorE5
set_option linter.unusedVariables false
set_option linter.unusedSimpArgs false
open Go Go.Gv
attribute [local irreducible] Go.Gv.WJ Go.Gv.OpJ Go.Gv.QJ Go.Gv.Spl Go.Gv.Req Go.Gv.IdxP Go.Gv.RegP Go.Gv.FinP Go.Gv.QuietP Go.Gv.CellP Go.Gv.CellsP Go.Gv.ArrP Go.Gv.ArrsP Go.Gv.DropP Go.Gv.ByteP Go.Gv.StoreP
set_option maxRecDepth 100000
namespace Go.Proofs.E
def textO (o : OP) : List UInt8 := if checkO o ≠ 0 then [63] else if o.k = 1 then 45 :: textI o.i else 43 :: (textI o.i ++ 32 :: (textI o.a ++ 32 :: hexD o.ch.toNat))
theorem checkO_ch {o : OP} (h : checkO o = 0) (h1 : o.k ≠ 1) : 32 ≤ o.ch ∧ o.ch ≤ 1114111 := by
  unfold checkO at h
  split at h
  · cases h
  · split at h
    · cases h
    · split at h
      · cases h
      · split at h
        · cases h
        · split at h
          · cases h
          · omega
theorem hexD_len (n k : Nat) (h : n < 16 ^ k) (hk : 0 < k) : (hexD n).length ≤ k := by
  induction k generalizing n with
  | zero => omega
  | succ k ih =>
    rw [hexD]
    split
    · simp
    · by_cases h0 : k = 0
      · subst h0; simp at h; omega
      · have := ih (n / 16) (by rw [Nat.pow_succ] at h; omega) (by omega)
        simp; omega
theorem wrap_id21 (x : Int) (h : 0 ≤ x) (h' : x ≤ 1114111) : IntKind.i64.wrap x = (x.toNat : Int) := by rw [wrap_id x (by omega) (by omega)]; omega
theorem String5_c (o : OP) : Cv 25 [opv o] (sv (textO o)) := by
  refine Ct.of_vc Tryd.f25 Tryd.func25 rfl rfl fun w H B g0 => ?_
  refine OpJ.callV (Check5_c o) (fun _ _ => rfl) rfl rfl rfl ?_
  refine Spl.of (fun h1 => ?_) (fun h1 => ?_)
  · exact FinP.open rfl (congrArg sv (by rw [textO, if_pos (by simpa using h1)]))
  have c0 : checkO o = 0 := by simpa using h1
  (repeat (first | refine Spl.t rfl ?_ | refine Spl.f rfl ?_))
  refine Spl.of (fun h2 => ?_) (fun h2 => ?_)
  · have k1 : o.k = 1 := by simpa using h2
    (repeat (first | refine Spl.t rfl ?_ | refine Spl.f rfl ?_))
    refine OpJ.callV (String_c o.i) (fun _ _ => rfl) rfl rfl rfl ?_
    have l1 := textI_len o.i
    refine Req.of (by simp; omega) ?_
    exact FinP.open rfl (congrArg sv (by rw [textO, if_neg (by omega), if_pos k1]; rfl))
  have k1 : o.k ≠ 1 := by simpa using h2
  obtain ⟨b1, b2⟩ := checkO_ch c0 k1
  have l1 := textI_len o.i
  have l2 := textI_len o.a
  have l3 := hexD_len o.ch.toNat 15 (by omega) (by omega)
  refine RegP.of rfl (by decide +kernel) ?_
  refine QuietP.of (QJ.call (String_c o.i) (fun _ _ => rfl) rfl rfl) ?_
  refine Req.of (by simp; omega) ?_
  refine Req.of (by simp; omega) ?_
  refine QuietP.of (QJ.call (String_c o.a) (fun _ _ => rfl) rfl rfl) ?_
  refine Req.of (by simp; omega) ?_
  refine Req.of (by simp; omega) ?_
  have hf := FormatInt16_c o.ch.toNat (by omega)
  rw [← wrap_id21 o.ch (by omega) b2] at hf
  refine QuietP.of (QJ.call hf (fun _ _ => rfl) rfl rfl) ?_
  refine Req.of (by simp; omega) ?_
  exact FinP.open rfl (congrArg sv (by rw [textO, if_neg (by omega), if_neg k1]; simp))
theorem digit5_c (n : Nat) (h : n < 16) : Cv 49 [iv n] (u8v (hx n).toNat) := by
  refine Ct.of_vc Tryd.f49 Tryd.func49 rfl rfl fun w H B g0 => ?_
  refine Spl.of (fun h1 => ?_) (fun h1 => ?_)
  · refine FinP.open rfl (congrArg u8v ?_)
    have : n < 10 := by have := of_decide_eq_true h1; omega
    unfold hx
    rw [if_pos this, wrap_id _ (by omega) (by omega), wrap_u8 _ (by omega) (by omega)]
    simp; omega
  · refine FinP.open rfl (congrArg u8v ?_)
    have : ¬ n < 10 := by have := of_decide_eq_false h1; omega
    unfold hx
    rw [if_neg this, wrap_id _ (by omega) (by omega), wrap_u8 _ (by omega) (by omega)]
    simp; omega
theorem Text5_c (o : OP) : Cv 26 [opv o] (sv (textO o)) := by
  refine Ct.of_vc Tryd.f26 Tryd.func26 rfl rfl fun w H B g0 => ?_
  refine OpJ.callV (RCheck5_c o) (fun _ _ => rfl) rfl rfl rfl ?_
  refine Spl.of (fun h1 => ?_) (fun h1 => ?_)
  · exact FinP.open rfl (congrArg sv (by rw [textO, if_pos (by simpa using h1)]))
  have c0 : checkO o = 0 := by simpa using h1
  (repeat (first | refine Spl.t rfl ?_ | refine Spl.f rfl ?_))
  refine Spl.of (fun h2 => ?_) (fun h2 => ?_)
  · have k1 : o.k = 1 := by simpa using h2
    (repeat (first | refine Spl.t rfl ?_ | refine Spl.f rfl ?_))
    refine OpJ.callV (RText_c o.i) (fun _ _ => rfl) rfl rfl rfl ?_
    have l1 := textI_len o.i
    refine Req.of (by simp; omega) ?_
    exact FinP.open rfl (congrArg sv (by rw [textO, if_neg (by omega), if_pos k1]; rfl))
  have k1 : o.k ≠ 1 := by simpa using h2
  obtain ⟨b1, b2⟩ := checkO_ch c0 k1
  have l1 := textI_len o.i
  have l2 := textI_len o.a
  have l3 := hexD_len o.ch.toNat 15 (by omega) (by omega)
  have hw : IntKind.i64.wrap o.ch = ((o.ch.toNat : Nat) : Int) := wrap_id21 o.ch (by omega) b2
  (repeat (first | refine Spl.t rfl ?_ | refine Spl.f rfl ?_))
  refine WJ.loopF (V := Nat × List UInt8) (fun v => [(4, iv v.1), (3, sv v.2)]) (fun _ => [(1, .cells [iv o.k, iv o.i.c, iv o.i.s, iv o.a.c, iv o.a.s, cv o.ch])]) (fun v => v.1)
    (fun v => v.1 ≤ 1114111 ∧ v.2.length + v.1 ≤ 2000000 ∧ ((0 < v.1 ∧ hexD v.1 ++ v.2 = hexD o.ch.toNat) ∨ (v.1 = 0 ∧ v.2 = hexD o.ch.toNat))) (o.ch.toNat, []) ⟨by simp only; omega, by simp only [List.length_nil]; omega, .inl ⟨by simp only; omega, by simp⟩⟩ ⟨some_iv hw, rfl, trivial⟩ (by repeat' (first | exact trivial | exact rfl | refine And.intro ?_ ?_)) ?_
  rintro ⟨m, acc⟩ ⟨hm, hl, hI⟩
  simp only at hm hl hI
  refine Spl.of (fun h => ?_) (fun h => ?_)
  · have hpos : 0 < m := by have := of_decide_eq_true h; omega
    have hrem : (m : Int).tmod 16 = ((m % 16 : Nat) : Int) := by rw [Int.tmod_eq_emod_of_nonneg (by omega)]; omega
    have hquo : IntKind.i64.wrap ((m : Int).tdiv 16) = ((m / 16 : Nat) : Int) := by rw [Int.tdiv_eq_ediv_of_nonneg (by omega), wrap_id _ (by omega) (by omega)]; omega
    have hd := digit5_c (m % 16) (by omega)
    rw [← hrem] at hd
    (repeat (first | refine Spl.t rfl ?_ | refine Spl.f rfl ?_))
    refine Req.of (by decide) ?_
    refine OpJ.callV hd (fun _ _ => rfl) rfl rfl rfl ?_
    refine OpJ.qu (O.bytesStr (ns := [((hx (m % 16)).toNat : Int)]) rfl rfl rfl rfl rfl rfl) rfl ?_
    refine Req.of (by simp; omega) ?_
    refine Req.of (by decide) ?_
    have hD : hexD m = if m < 16 then [hx m] else hexD (m / 16) ++ [hx (m % 16)] := by rw [hexD]
    refine ⟨(m / 16, hx (m % 16) :: acc), ⟨by simp only; omega, by simp; omega, ?_⟩, by simp only; omega, ⟨some_iv hquo, some_sv ?_, trivial⟩, (by repeat' (first | exact trivial | exact rfl | refine And.intro ?_ ?_)), (by repeat' (first | exact trivial | exact rfl | refine And.intro ?_ ?_))⟩
    · simp only
      rcases hI with ⟨_, h1⟩ | ⟨h0, _⟩
      · by_cases h16 : m < 16
        · right
          rw [hD, if_pos h16] at h1
          exact ⟨by omega, by rw [Nat.mod_eq_of_lt h16]; simpa using h1⟩
        · left
          rw [hD, if_neg h16] at h1
          exact ⟨by omega, by simpa using h1⟩
      · omega
    · show List.map (fun n : Int => UInt8.ofNat n.toNat) [((hx (m % 16)).toNat : Int)] ++ acc = _
      simp
  have hacc : acc = hexD o.ch.toNat := by
    have h0 := of_decide_eq_false h
    rcases hI with ⟨hp, _⟩ | ⟨_, h1⟩
    · omega
    · exact h1
  subst hacc
  (repeat (first | refine Spl.t rfl ?_ | refine Spl.f rfl ?_))
  refine RegP.of rfl (by decide +kernel) ?_
  refine QuietP.of (QJ.call (RText_c o.i) (fun _ _ => rfl) rfl rfl) ?_
  refine Req.of (by simp; omega) ?_
  refine Req.of (by simp; omega) ?_
  refine QuietP.of (QJ.call (RText_c o.a) (fun _ _ => rfl) rfl rfl) ?_
  refine Req.of (by simp; omega) ?_
  refine Req.of (by simp; omega) ?_
  refine Req.of (by simp; omega) ?_
  exact FinP.open rfl (congrArg sv (by rw [textO, if_neg (by omega), if_neg k1]; simp))
theorem Awake5_c : Cv 21 [] (bv true) := by
  refine Ct.of_vc Tryd.f21 Tryd.func21 rfl rfl fun w H B g0 => ?_
  refine OpJ.callV Awake_c (fun _ _ => rfl) rfl rfl rfl ?_
  (repeat (first | refine Spl.t rfl ?_ | refine Spl.f rfl ?_))
  refine OpJ.callV (Check5_c ⟨0, ⟨2, 1⟩, ⟨1, 3⟩, 97⟩) (fun _ _ => rfl) rfl rfl rfl ?_
  (repeat (first | refine Spl.t rfl ?_ | refine Spl.f rfl ?_))
  refine OpJ.callV (String5_c ⟨0, ⟨2, 1⟩, ⟨1, 3⟩, 97⟩) (fun _ _ => rfl) rfl rfl rfl ?_
  (repeat (first | refine Spl.t rfl ?_ | refine Spl.f rfl ?_))
  refine FinP.open rfl (congrArg bv ?_)
  decide +kernel
theorem OpChecks_c (o : OP) : Cv 4 [opv o] (bv true) := by
  refine Ct.of_vc Tryd.f4 Tryd.func4 rfl rfl fun w H B g0 => ?_
  refine RegP.of rfl (by decide +kernel) ?_
  refine QuietP.of (QJ.call Awake5_c (fun _ _ => rfl) rfl rfl) ?_
  (repeat (first | refine Spl.t rfl ?_ | refine Spl.f rfl ?_))
  refine QuietP.of (QJ.call (Check5_c o) (fun _ _ => rfl) rfl rfl) ?_
  (repeat (first | refine Spl.t rfl ?_ | refine Spl.f rfl ?_))
  refine QuietP.of (QJ.call (Of5_c o) (fun _ _ => rfl) rfl rfl) ?_
  (repeat (first | refine Spl.t rfl ?_ | refine Spl.f rfl ?_))
  refine QuietP.of (QJ.call (RCheck5_c o) (fun _ _ => rfl) rfl rfl) ?_
  (repeat (first | refine Spl.t rfl ?_ | refine Spl.f rfl ?_))
  refine Spl.of (fun h => ?_) (fun h => ?_)
  · (repeat (first | refine Spl.t rfl ?_ | refine Spl.f rfl ?_))
    refine QuietP.of (QJ.call (String5_c o) (fun _ _ => rfl) rfl rfl) ?_
    (repeat (first | refine Spl.t rfl ?_ | refine Spl.f rfl ?_))
    refine QuietP.of (QJ.call (Of5_c o) (fun _ _ => rfl) rfl rfl) ?_
    (repeat (first | refine Spl.t rfl ?_ | refine Spl.f rfl ?_))
    refine QuietP.of (QJ.call (Text5_c o) (fun _ _ => rfl) rfl rfl) ?_
    (repeat (first | refine Spl.t rfl ?_ | refine Spl.f rfl ?_))
    exact FinP.open rfl (congrArg bv (by simp))
  · simp at h
end Go.Proofs.E
