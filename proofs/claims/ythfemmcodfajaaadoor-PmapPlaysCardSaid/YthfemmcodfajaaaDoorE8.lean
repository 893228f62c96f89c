/- The id of a text. The law IdOrders. -/
import Derived.Test.YthfemmcodfajaaaDoorE7
set_option linter.unusedVariables false
set_option linter.unusedSimpArgs false
open Go Go.Gv
attribute [local irreducible] Go.Gv.WJ Go.Gv.OpJ Go.Gv.QJ Go.Gv.Spl Go.Gv.Req Go.Gv.IdxP Go.Gv.RegP Go.Gv.FinP Go.Gv.QuietP Go.Gv.CellP Go.Gv.CellsP Go.Gv.ArrP Go.Gv.ArrsP Go.Gv.DropP Go.Gv.ByteP Go.Gv.StoreP
set_option maxRecDepth 100000
namespace Go.Proofs.E
theorem index_at (c : UInt8) (r : List UInt8) : ∀ (l : List UInt8), c ∉ l → Lib.index (l ++ c :: r) [c] = l.length
  | [], _ => by simp [Lib.index, List.isPrefixOf]
  | b :: l, h => by
    have h1 : c ≠ b := fun e => h (by simp [e])
    have h2 := index_at c r l fun hc => h (by simp [hc])
    have h3 : ([c].isPrefixOf (b :: (l ++ c :: r))) = false := by simp [List.isPrefixOf, h1]
    rw [List.cons_append, Lib.index, h3, h2, List.length_cons]
    have h4 : ((l.length : Int) == -1) = false := beq_eq_false_iff_ne.2 (by omega)
    rw [h4]; simp
theorem cut_at (c : UInt8) (l r : List UInt8) (h : c ∉ l) : Lib.cut (l ++ c :: r) [c] = (l, r, true) := by
  unfold Lib.cut
  rw [index_at c r l h, if_pos (by omega)]
  simp
theorem drewN_keeps (w : World) (n : Nat) : Keeps w (fun _ => False) (w.drewN n) := ⟨rfl, rfl, rfl, Nat.le_refl _, fun _ _ _ => rfl⟩
theorem Cut_c (s p : List UInt8) (hs : s.length < 4294967281) : Cv 58 [sv s, sv p] (.tup [sv (Lib.cut s p).1, sv (Lib.cut s p).2.1, bv (Lib.cut s p).2.2]) :=
  Ct.of_calls fun γ H w vs hΛ hok hl hr => by
    have e := scalars_eq (xs := [.string ⟨⟨s⟩⟩, .string ⟨⟨p⟩⟩]) hl hr
    subst e
    have hm := Mem.start hok γ
    obtain ⟨m, hmm⟩ := hΛ.2
    refine (Tryd.strings_Cut ⟨⟨s⟩⟩ ⟨⟨p⟩⟩ m w hs hmm).mono fun e w' ⟨he, n, hw⟩ => ⟨_, H, he, ?_, hm.quiet (by rw [hw]; exact drewN_keeps w n)⟩
    exact .tup _ [_, _, _] rfl (args_cons (.d _ _ (.v _ rfl)) (args_cons (.d _ _ (.v _ rfl)) (args_cons (.d _ _ (.v _ rfl)) args_nil)))
theorem itoa_dd (n : Int) (h : 0 ≤ n) : Lib.itoa n = Lib.decDigits n.toNat := by rw [Lib.itoa, if_neg (by omega)]
theorem Parse_c (a : ID) (h : mayI a = true) : Cv 41 [sv (textI a)] (.tup [idv a, iv 0]) := by
  obtain ⟨a1, a2, a3, a4⟩ := mayI_iff h
  have hn : ¬ noneI a = true := by unfold noneI; simp; omega
  have l1 := itoa_len a.c (by omega) (by omega)
  have l2 := itoa_len a.s (by omega) (by omega)
  have ht : textI a = Lib.itoa a.c ++ 46 :: Lib.itoa a.s := by rw [textI, if_neg hn, if_pos h]; simp
  have hb1 : ∀ b, b ∈ Lib.itoa a.c → 48 ≤ b.toNat ∧ b.toNat ≤ 57 := by rw [itoa_dd _ (by omega)]; exact dd_byte _
  have hb2 : ∀ b, b ∈ Lib.itoa a.s → 48 ≤ b.toNat ∧ b.toNat ≤ 57 := by rw [itoa_dd _ (by omega)]; exact dd_byte _
  have hh1 : (Lib.itoa a.c).length = 1 ∨ ∃ b r, Lib.itoa a.c = b :: r ∧ b.toNat ≠ 48 := by rw [itoa_dd _ (by omega)]; exact dd_head _
  have hh2 : (Lib.itoa a.s).length = 1 ∨ ∃ b r, Lib.itoa a.s = b :: r ∧ b.toNat ≠ 48 := by rw [itoa_dd _ (by omega)]; exact dd_head _
  have hv1 : (val (Lib.itoa a.c) : Int) = a.c := by rw [itoa_dd _ (by omega), dd_val]; omega
  have hv2 : (val (Lib.itoa a.s) : Int) = a.s := by rw [itoa_dd _ (by omega), dd_val]; omega
  have hcut : Lib.cut (textI a) [46] = (Lib.itoa a.c, Lib.itoa a.s, true) := by rw [ht]; exact cut_at 46 _ _ fun hc => by have := hb1 46 hc; simp at this
  have hc := Cut_c (textI a) [46] (by have := textI_len a; omega)
  rw [hcut] at hc
  have hw1 := whole_c (Lib.itoa a.c) (by omega) hb1 hh1
  have hw2 := whole_c (Lib.itoa a.s) (by omega) hb2 hh2
  have hn1 := Number_c (Lib.itoa a.c) 1048576 (by omega) (by rw [itoa_dd _ (by omega)]; exact dd_ne _) hb1 hh1 (by omega)
  have hn2 := Number_c (Lib.itoa a.s) 1000 (by omega) (by rw [itoa_dd _ (by omega)]; exact dd_ne _) hb2 hh2 (by omega)
  rw [hv1] at hn1
  rw [hv2] at hn2
  have hne : textI a ≠ [45] := by
    rw [ht]
    intro e
    have := congrArg List.length e
    simp at this
    rw [itoa_dd _ (by omega), itoa_dd _ (by omega)] at this
    have := List.length_pos_iff.2 (dd_ne a.c.toNat)
    have := List.length_pos_iff.2 (dd_ne a.s.toNat)
    omega
  refine Ct.of_vc Tryd.f41 Tryd.func41 rfl rfl fun w H B g0 => ?_
  refine Spl.f (decide_eq_false hne) ?_
  (repeat (first | refine Spl.t rfl ?_ | refine Spl.f rfl ?_))
  refine OpJ.callV hc (fun _ _ => rfl) rfl rfl rfl ?_
  (repeat (first | refine Spl.t rfl ?_ | refine Spl.f rfl ?_))
  refine OpJ.callV hw1 (fun _ _ => rfl) rfl rfl rfl ?_
  (repeat (first | refine Spl.t rfl ?_ | refine Spl.f rfl ?_))
  refine OpJ.callV hw2 (fun _ _ => rfl) rfl rfl rfl ?_
  (repeat (first | refine Spl.t rfl ?_ | refine Spl.f rfl ?_))
  refine OpJ.callV hn1 (fun _ _ => rfl) rfl rfl rfl ?_
  (repeat (first | refine Spl.t rfl ?_ | refine Spl.f rfl ?_))
  refine OpJ.callV hn2 (fun _ _ => rfl) rfl rfl rfl ?_
  (repeat (first | refine Spl.t rfl ?_ | refine Spl.f rfl ?_))
  refine OpJ.callV (Check_c a) (fun _ _ => rfl) rfl rfl rfl ?_
  (repeat (first | refine Spl.t rfl ?_ | refine Spl.f rfl ?_))
  have hk : checkI a = 0 := by unfold checkI; rw [if_pos h]
  have hk' : (!decide (checkI a = 0)) = false := by rw [hk]; rfl
  refine Spl.f hk' ?_
  (repeat (first | refine Spl.t rfl ?_ | refine Spl.f rfl ?_))
  exact FinP.open rfl rfl
theorem eqI (a b : ID) : eqT Tryd.prog 3 23 [.int .i64 a.c, .int .i64 a.s] [.int .i64 b.c, .int .i64 b.s] = some (decide (a = b)) := by
  show some (decide (a.c = b.c) && (decide (a.s = b.s) && true)) = _
  cases a; cases b; simp
theorem eqI_ok : eqOk Tryd.prog 3 23 = true := by kernel_rfl
theorem eqI_g : Tryd.prog.eqGuardType Tryd.prog.depth 23 = false := by kernel_rfl
theorem less_self (a : ID) : lessI a a = false := by unfold lessI; simp
theorem less_anti (a b : ID) (h : a ≠ b) : (lessI a b == lessI b a) = false := by
  unfold lessI
  have : ¬ (a.c = b.c ∧ a.s = b.s) := fun ⟨x, y⟩ => h (by cases a; cases b; simp_all)
  by_cases h1 : a.c < b.c ∨ a.c = b.c ∧ a.s < b.s
  · rw [decide_eq_true h1, decide_eq_false (by omega)]; rfl
  · rw [decide_eq_false h1, decide_eq_true (by omega)]; rfl
theorem less_trans {a b c : ID} (h1 : lessI a b = true) (h2 : lessI b c = true) : lessI a c = true := by
  unfold lessI at *
  have h1 := of_decide_eq_true h1
  have h2 := of_decide_eq_true h2
  exact decide_eq_true (by omega)
theorem IdOrders_c (a b c : ID) : Cv 9 [idv a, idv b, idv c] (bv true) := by
  refine Ct.of_vc Tryd.f9 Tryd.func9 rfl rfl fun w H B g0 => ?_
  refine OpJ.callV (Check_c a) (fun _ _ => rfl) rfl rfl rfl ?_
  refine Spl.of (fun h => ?_) (fun h => ?_)
  · have hm : mayI a = true := by
      cases e : mayI a with
      | true => rfl
      | false => simp [checkI, e] at h
    (repeat (first | refine Spl.t rfl ?_ | refine Spl.f rfl ?_))
    refine OpJ.callV (String_c a) (fun _ _ => rfl) rfl rfl rfl ?_
    (repeat (first | refine Spl.t rfl ?_ | refine Spl.f rfl ?_))
    refine OpJ.callV (Parse_c a hm) (fun _ _ => rfl) rfl rfl rfl ?_
    (repeat (first | refine Spl.t rfl ?_ | refine Spl.f rfl ?_))
    refine OpJ.qu (O.neT 3 rfl rfl rfl rfl rfl eqI_ok eqI_g (eqI a a)) rfl ?_
    refine Spl.f (by simp) ?_
    (repeat (first | refine Spl.t rfl ?_ | refine Spl.f rfl ?_))
    (refine RegP.of rfl (by decide +kernel) ?_; refine QuietP.of (O.eqT 3 rfl rfl rfl rfl rfl eqI_ok eqI_g (eqI a b)) ?_; refine Spl.of (fun e => ?_) (fun e => ?_); (have e' : a = b := of_decide_eq_true e; subst e'; have l0 := less_self a; (repeat (first | refine Spl.t rfl ?_ | refine Spl.f rfl ?_)); refine QuietP.of (QJ.call (Less_c a a) (fun _ _ => rfl) rfl rfl) ?_; (repeat (first | refine Spl.t rfl ?_ | refine Spl.f rfl ?_)); refine Spl.f l0 ?_; (repeat (first | refine Spl.t rfl ?_ | refine Spl.f rfl ?_)); refine QuietP.of (QJ.call (Less_c a a) (fun _ _ => rfl) rfl rfl) ?_; (repeat (first | refine Spl.t rfl ?_ | refine Spl.f rfl ?_)); refine Spl.f l0 ?_; (repeat (first | refine Spl.t rfl ?_ | refine Spl.f rfl ?_)); refine QuietP.of (O.neT 3 rfl rfl rfl rfl rfl eqI_ok eqI_g (eqI a a)) ?_; (repeat (first | refine Spl.t rfl ?_ | refine Spl.f rfl ?_)); refine Spl.f (by simp) ?_; (repeat (first | refine Spl.t rfl ?_ | refine Spl.f rfl ?_)); ((repeat (first | refine Spl.t rfl ?_ | refine Spl.f rfl ?_)); refine OpJ.callV Awake_c (fun _ _ => rfl) rfl rfl rfl ?_; (repeat (first | refine Spl.t rfl ?_ | refine Spl.f rfl ?_)); refine OpJ.callV (Less_c a a) (fun _ _ => rfl) rfl rfl rfl ?_; (repeat (first | refine Spl.t rfl ?_ | refine Spl.f rfl ?_)); refine Spl.of (fun k => ?_) (fun k => ?_); ((repeat (first | refine Spl.t rfl ?_ | refine Spl.f rfl ?_)); exact FinP.open rfl rfl); (have k1 : lessI a a = true := (by simpa using k); (repeat (first | refine Spl.t rfl ?_ | refine Spl.f rfl ?_)); refine OpJ.callV (Less_c a c) (fun _ _ => rfl) rfl rfl rfl ?_; (repeat (first | refine Spl.t rfl ?_ | refine Spl.f rfl ?_)); refine Spl.of (fun k2 => ?_) (fun k2 => ?_); ((repeat (first | refine Spl.t rfl ?_ | refine Spl.f rfl ?_)); exact FinP.open rfl rfl); (have k3 : lessI a c = true := (by simpa using k2); (repeat (first | refine Spl.t rfl ?_ | refine Spl.f rfl ?_)); refine OpJ.callV (Less_c a c) (fun _ _ => rfl) rfl rfl rfl ?_; (repeat (first | refine Spl.t rfl ?_ | refine Spl.f rfl ?_)); exact FinP.open rfl (congrArg bv (less_trans k1 k3)))))); (have e' : a ≠ b := of_decide_eq_false e; (repeat (first | refine Spl.t rfl ?_ | refine Spl.f rfl ?_)); refine QuietP.of (O.neT 3 rfl rfl rfl rfl rfl eqI_ok eqI_g (eqI a b)) ?_; (repeat (first | refine Spl.t rfl ?_ | refine Spl.f rfl ?_)); refine Spl.t (by simp [e']) ?_; (repeat (first | refine Spl.t rfl ?_ | refine Spl.f rfl ?_)); refine QuietP.of (QJ.call (Less_c a b) (fun _ _ => rfl) rfl rfl) ?_; (repeat (first | refine Spl.t rfl ?_ | refine Spl.f rfl ?_)); refine QuietP.of (QJ.call (Less_c b a) (fun _ _ => rfl) rfl rfl) ?_; (repeat (first | refine Spl.t rfl ?_ | refine Spl.f rfl ?_)); refine Spl.f (less_anti a b e') ?_; ((repeat (first | refine Spl.t rfl ?_ | refine Spl.f rfl ?_)); refine OpJ.callV Awake_c (fun _ _ => rfl) rfl rfl rfl ?_; (repeat (first | refine Spl.t rfl ?_ | refine Spl.f rfl ?_)); refine OpJ.callV (Less_c a b) (fun _ _ => rfl) rfl rfl rfl ?_; (repeat (first | refine Spl.t rfl ?_ | refine Spl.f rfl ?_)); refine Spl.of (fun k => ?_) (fun k => ?_); ((repeat (first | refine Spl.t rfl ?_ | refine Spl.f rfl ?_)); exact FinP.open rfl rfl); (have k1 : lessI a b = true := (by simpa using k); (repeat (first | refine Spl.t rfl ?_ | refine Spl.f rfl ?_)); refine OpJ.callV (Less_c b c) (fun _ _ => rfl) rfl rfl rfl ?_; (repeat (first | refine Spl.t rfl ?_ | refine Spl.f rfl ?_)); refine Spl.of (fun k2 => ?_) (fun k2 => ?_); ((repeat (first | refine Spl.t rfl ?_ | refine Spl.f rfl ?_)); exact FinP.open rfl rfl); (have k3 : lessI b c = true := (by simpa using k2); (repeat (first | refine Spl.t rfl ?_ | refine Spl.f rfl ?_)); refine OpJ.callV (Less_c a c) (fun _ _ => rfl) rfl rfl rfl ?_; (repeat (first | refine Spl.t rfl ?_ | refine Spl.f rfl ?_)); exact FinP.open rfl (congrArg bv (less_trans k1 k3)))))))
  · (repeat (first | refine Spl.t rfl ?_ | refine Spl.f rfl ?_))
    (refine RegP.of rfl (by decide +kernel) ?_; refine QuietP.of (O.eqT 3 rfl rfl rfl rfl rfl eqI_ok eqI_g (eqI a b)) ?_; refine Spl.of (fun e => ?_) (fun e => ?_); (have e' : a = b := of_decide_eq_true e; subst e'; have l0 := less_self a; (repeat (first | refine Spl.t rfl ?_ | refine Spl.f rfl ?_)); refine QuietP.of (QJ.call (Less_c a a) (fun _ _ => rfl) rfl rfl) ?_; (repeat (first | refine Spl.t rfl ?_ | refine Spl.f rfl ?_)); refine Spl.f l0 ?_; (repeat (first | refine Spl.t rfl ?_ | refine Spl.f rfl ?_)); refine QuietP.of (QJ.call (Less_c a a) (fun _ _ => rfl) rfl rfl) ?_; (repeat (first | refine Spl.t rfl ?_ | refine Spl.f rfl ?_)); refine Spl.f l0 ?_; (repeat (first | refine Spl.t rfl ?_ | refine Spl.f rfl ?_)); refine QuietP.of (O.neT 3 rfl rfl rfl rfl rfl eqI_ok eqI_g (eqI a a)) ?_; (repeat (first | refine Spl.t rfl ?_ | refine Spl.f rfl ?_)); refine Spl.f (by simp) ?_; (repeat (first | refine Spl.t rfl ?_ | refine Spl.f rfl ?_)); ((repeat (first | refine Spl.t rfl ?_ | refine Spl.f rfl ?_)); refine OpJ.callV Awake_c (fun _ _ => rfl) rfl rfl rfl ?_; (repeat (first | refine Spl.t rfl ?_ | refine Spl.f rfl ?_)); refine OpJ.callV (Less_c a a) (fun _ _ => rfl) rfl rfl rfl ?_; (repeat (first | refine Spl.t rfl ?_ | refine Spl.f rfl ?_)); refine Spl.of (fun k => ?_) (fun k => ?_); ((repeat (first | refine Spl.t rfl ?_ | refine Spl.f rfl ?_)); exact FinP.open rfl rfl); (have k1 : lessI a a = true := (by simpa using k); (repeat (first | refine Spl.t rfl ?_ | refine Spl.f rfl ?_)); refine OpJ.callV (Less_c a c) (fun _ _ => rfl) rfl rfl rfl ?_; (repeat (first | refine Spl.t rfl ?_ | refine Spl.f rfl ?_)); refine Spl.of (fun k2 => ?_) (fun k2 => ?_); ((repeat (first | refine Spl.t rfl ?_ | refine Spl.f rfl ?_)); exact FinP.open rfl rfl); (have k3 : lessI a c = true := (by simpa using k2); (repeat (first | refine Spl.t rfl ?_ | refine Spl.f rfl ?_)); refine OpJ.callV (Less_c a c) (fun _ _ => rfl) rfl rfl rfl ?_; (repeat (first | refine Spl.t rfl ?_ | refine Spl.f rfl ?_)); exact FinP.open rfl (congrArg bv (less_trans k1 k3)))))); (have e' : a ≠ b := of_decide_eq_false e; (repeat (first | refine Spl.t rfl ?_ | refine Spl.f rfl ?_)); refine QuietP.of (O.neT 3 rfl rfl rfl rfl rfl eqI_ok eqI_g (eqI a b)) ?_; (repeat (first | refine Spl.t rfl ?_ | refine Spl.f rfl ?_)); refine Spl.t (by simp [e']) ?_; (repeat (first | refine Spl.t rfl ?_ | refine Spl.f rfl ?_)); refine QuietP.of (QJ.call (Less_c a b) (fun _ _ => rfl) rfl rfl) ?_; (repeat (first | refine Spl.t rfl ?_ | refine Spl.f rfl ?_)); refine QuietP.of (QJ.call (Less_c b a) (fun _ _ => rfl) rfl rfl) ?_; (repeat (first | refine Spl.t rfl ?_ | refine Spl.f rfl ?_)); refine Spl.f (less_anti a b e') ?_; ((repeat (first | refine Spl.t rfl ?_ | refine Spl.f rfl ?_)); refine OpJ.callV Awake_c (fun _ _ => rfl) rfl rfl rfl ?_; (repeat (first | refine Spl.t rfl ?_ | refine Spl.f rfl ?_)); refine OpJ.callV (Less_c a b) (fun _ _ => rfl) rfl rfl rfl ?_; (repeat (first | refine Spl.t rfl ?_ | refine Spl.f rfl ?_)); refine Spl.of (fun k => ?_) (fun k => ?_); ((repeat (first | refine Spl.t rfl ?_ | refine Spl.f rfl ?_)); exact FinP.open rfl rfl); (have k1 : lessI a b = true := (by simpa using k); (repeat (first | refine Spl.t rfl ?_ | refine Spl.f rfl ?_)); refine OpJ.callV (Less_c b c) (fun _ _ => rfl) rfl rfl rfl ?_; (repeat (first | refine Spl.t rfl ?_ | refine Spl.f rfl ?_)); refine Spl.of (fun k2 => ?_) (fun k2 => ?_); ((repeat (first | refine Spl.t rfl ?_ | refine Spl.f rfl ?_)); exact FinP.open rfl rfl); (have k3 : lessI b c = true := (by simpa using k2); (repeat (first | refine Spl.t rfl ?_ | refine Spl.f rfl ?_)); refine OpJ.callV (Less_c a c) (fun _ _ => rfl) rfl rfl rfl ?_; (repeat (first | refine Spl.t rfl ?_ | refine Spl.f rfl ?_)); exact FinP.open rfl (congrArg bv (less_trans k1 k3)))))))
end Go.Proofs.E
