/- Contracts of the functions on ids. -/
import Derived.Test.YthfemmcodfajaaaDoorG18
import Derived.Test.YthfemmcodfajaaaDoorGL
import Derived.Test.YthfemmcodfajaaaDoorDShelf
import Derived.KernelRfl
import Derived.Test.YthfemmcodfajaaaDoorChecked
set_option linter.unusedVariables false
set_option linter.unusedSimpArgs false
open Go Go.Gv
attribute [local irreducible] Go.Gv.WJ Go.Gv.OpJ Go.Gv.QJ Go.Gv.Spl Go.Gv.Req Go.Gv.IdxP Go.Gv.RegP Go.Gv.FinP Go.Gv.QuietP Go.Gv.CellP Go.Gv.CellsP Go.Gv.ArrP Go.Gv.ArrsP Go.Gv.DropP Go.Gv.ByteP Go.Gv.StoreP
set_option maxRecDepth 100000
namespace Go.Proofs.E
abbrev iv (n : Int) : AV := .d (.v (.int .i64 n))
abbrev bv (b : Bool) : AV := .d (.v (.bool b))
abbrev sv (l : List UInt8) : AV := .d (.v (.string ⟨⟨l⟩⟩))
/-- An id. -/
structure ID where
  c : Int
  s : Int
  deriving DecidableEq
abbrev idv (a : ID) : AV := .agg [iv a.c, iv a.s]
/-- The library's tables. -/
def tab64 : List Int := [0, 1, 56, 2, 57, 49, 28, 3, 61, 58, 42, 50, 38, 29, 17, 4, 62, 47, 59, 36, 45, 43, 51, 22, 53, 39, 33, 30, 24, 18, 12, 5, 63, 55, 48, 27, 60, 41, 37, 16, 46, 35, 44, 21, 52, 32, 23, 11, 54, 26, 40, 15, 34, 20, 31, 10, 25, 14, 19, 9, 13, 8, 7, 6]
theorem gPow : Tryd.prog.globalNamed "internal/strconv.uint64pow10" = some 0 := by kernel_rfl
theorem gTz : Tryd.prog.globalNamed "math/bits.deBruijn64tab" = some 3 := by kernel_rfl
def tabs : List (String × IntKind × List Int) := [("internal/strconv.uint64pow10", .u64, Lib.pow10Tab), ("math/bits.deBruijn64tab", .u8, tab64)]
def tab0 : Amb := tabAmb Tryd.prog (Nat.max 0 3 + 1) tabs (fun n hn i hi => by
  simp only [tabs, List.mem_cons, List.not_mem_nil, or_false] at hn
  rcases hn with rfl | rfl
  · have := gPow.symm.trans hi
    cases this; decide
  · have := gTz.symm.trans hi
    cases this; decide)
/-- And a word of the library's holds a number. -/
def tab : Amb := ⟨fun w => tab0.p w ∧ ∃ m, w.cell? ⟨1, 0, none⟩ = some (.int .i64 m), Nat.max (Nat.max 0 3 + 1) (1 + 1), fun {w w'} h hk => ⟨tab0.st h.1 (fun k hk' => hk k (Nat.lt_of_lt_of_le hk' (Nat.le_max_left _ _))), by
  obtain ⟨m, hm⟩ := h.2
  refine ⟨m, ?_⟩
  have := hk 1 (Nat.lt_of_lt_of_le (Nat.lt_succ_self _) (Nat.le_max_right _ _))
  simp only [World.cell?] at hm ⊢
  rw [this]; exact hm⟩⟩
theorem tab_pow {w : World} (h : tab.p w) : Lib.TabIs Tryd.prog w "internal/strconv.uint64pow10" .u64 Lib.pow10Tab := h.1 _ (.head _)
theorem tab_tz {w : World} (h : tab.p w) : Lib.TabIs Tryd.prog w "math/bits.deBruijn64tab" .u8 tab64 := h.1 _ (.tail _ (.head _))
theorem tabIs_lt {P : Program} {w : World} {n : String} {k : IntKind} {zs : List Int} {g : Nat} (hg : P.globalNamed n = some g) (h : Lib.TabIs P w n k zs) : g < w.heap.size := by
  obtain ⟨i, hi, hm⟩ := Option.bind_eq_some_iff.1 (show World.var? P w n = some _ from h)
  obtain rfl := Option.some.inj (hg.symm.trans hi)
  split at hm
  · next h1 => exact (Array.getElem?_eq_some_iff.1 h1).1
  · cases hm
theorem tab_of {w : World} (h1 : Lib.TabIs Tryd.prog w "internal/strconv.uint64pow10" .u64 Lib.pow10Tab) (h2 : Lib.TabIs Tryd.prog w "math/bits.deBruijn64tab" .u8 tab64) (h3 : ∃ m, w.cell? ⟨1, 0, none⟩ = some (.int .i64 m)) : tab.p w ∧ tab.g ≤ w.heap.size := by
  have a1 := tabIs_lt gPow h1
  have a2 := tabIs_lt gTz h2
  have a3 := lt_of_cell h3.choose_spec
  refine ⟨⟨fun n hn => ?_, h3⟩, ?_⟩
  · simp only [tabs, List.mem_cons, List.not_mem_nil, or_false] at hn
    rcases hn with rfl | rfl
    · exact h1
    · exact h2
  · exact Nat.max_le.2 ⟨Nat.succ_le_of_lt (Nat.max_lt.2 ⟨a1, a2⟩), a3⟩
abbrev Cv (f : FuncId) (avs : List AV) (r : AV) : Prop := Ct tab Tryd.prog f avs [] (fun q _ => q = r)
theorem some_iv {a b : Int} (h : a = b) : some (iv a) = some (iv b) := by rw [h]
theorem some_sv {a b : List UInt8} (h : a = b) : some (sv a) = some (sv b) := by rw [h]
theorem some_bv {a b : Bool} (h : a = b) : some (bv a) = some (bv b) := by rw [h]
theorem wrap_id (x : Int) (h : -9223372036854775808 ≤ x) (h' : x ≤ 9223372036854775807) : IntKind.i64.wrap x = x := by
  simp only [IntKind.wrap, IntKind.signed, IntKind.bits]; simp; omega

def mayI (a : ID) : Bool := decide (1 ≤ a.c ∧ a.c ≤ 1048576 ∧ 1 ≤ a.s ∧ a.s ≤ 1000)
def lessI (a b : ID) : Bool := decide (a.c < b.c ∨ a.c = b.c ∧ a.s < b.s)
def noneI (a : ID) : Bool := decide (a.c = 0 ∧ a.s = 0)
def checkI (a : ID) : Int := if mayI a = true then 0 else 2

theorem Of_c (a : ID) : Cv 12 [idv a] (idv a) := by
  refine Ct.of_vc Tryd.f12 Tryd.func12 rfl rfl fun w H B g0 => ?_
  exact FinP.open rfl rfl
theorem Check_c (a : ID) : Cv 14 [idv a] (iv (checkI a)) := by
  refine Ct.of_vc Tryd.f14 Tryd.func14 rfl rfl fun w H B g0 => ?_
  (repeat' (first | refine Spl.t rfl ?_ | refine Spl.f rfl ?_ | refine Spl.of (fun h => ?_) (fun h => ?_)))
  all_goals refine FinP.open rfl (congrArg iv ?_)
  all_goals unfold checkI mayI
  all_goals simp_all
  all_goals omega
theorem May_c (a : ID) : Cv 15 [idv a] (bv (mayI a)) := by
  refine Ct.of_vc Tryd.f15 Tryd.func15 rfl rfl fun w H B g0 => ?_
  (repeat' (first | refine Spl.t rfl ?_ | refine Spl.f rfl ?_ | refine Spl.of (fun h => ?_) (fun h => ?_)))
  all_goals refine FinP.open rfl (congrArg bv ?_)
  all_goals unfold mayI
  all_goals simp_all
  all_goals omega
theorem Less_c (a b : ID) : Cv 16 [idv a, idv b] (bv (lessI a b)) := by
  refine Ct.of_vc Tryd.f16 Tryd.func16 rfl rfl fun w H B g0 => ?_
  (repeat' (first | refine Spl.t rfl ?_ | refine Spl.f rfl ?_ | refine Spl.of (fun h => ?_) (fun h => ?_)))
  all_goals refine FinP.open rfl (congrArg bv ?_)
  all_goals unfold lessI
  all_goals simp_all
  all_goals omega
theorem RLess_c (a b : ID) : Cv 13 [idv a, idv b] (bv (lessI a b)) := by
  refine Ct.of_vc Tryd.f13 Tryd.func13 rfl rfl fun w H B g0 => ?_
  (repeat' (first | refine Spl.t rfl ?_ | refine Spl.f rfl ?_ | refine Spl.of (fun h => ?_) (fun h => ?_)))
  all_goals refine FinP.open rfl (congrArg bv ?_)
  all_goals unfold lessI
  all_goals simp_all
  all_goals omega
theorem None_c (a : ID) : Cv 17 [idv a] (bv (noneI a)) := by
  refine Ct.of_vc Tryd.f17 Tryd.func17 rfl rfl fun w H B g0 => ?_
  refine OpJ.qu (O.eqS (r := noneI a) rfl rfl rfl rfl rfl (by show Tryd.prog.stoodInHeld 23 = false; kernel_rfl) (by show Tryd.prog.eqGuardType Tryd.prog.depth 23 = false; kernel_rfl) rfl (by simp [eqRes, veq, noneI]; rfl)) rfl ?_
  exact FinP.open rfl rfl
theorem FormatInt_c (n : Int) (h0 : -9223372036854775808 ≤ n) (h1 : n ≤ 9223372036854775807) : Cv 43 [iv n, iv 10] (sv (Lib.itoa n)) :=
  Ct.of_calls_scalars [.int .i64 n, .int .i64 10] rfl fun w hw => (Tryd.strconv_FormatInt_10 n h0 h1 w (tab_pow hw)).mono fun _ _ ⟨he, _, _, hg⟩ => ⟨he, by rw [hg]; exact keeps_below (Lib.below_grow _ _ (Nat.le_refl _) _ _)⟩
theorem Itoa_c (n : Int) (h0 : -9223372036854775808 ≤ n) (h1 : n ≤ 9223372036854775807) : Cv 44 [iv n] (sv (Lib.itoa n)) :=
  Ct.of_calls_scalars [.int .i64 n] rfl fun w hw => (Tryd.strconv_Itoa n h0 h1 w (tab_pow hw)).mono fun _ _ ⟨he, _, _, hg⟩ => ⟨he, by rw [hg]; exact keeps_below (Lib.below_grow _ _ (Nat.le_refl _) _ _)⟩

def textI (a : ID) : List UInt8 := if noneI a = true then [45] else if mayI a = true then Lib.itoa a.c ++ [46] ++ Lib.itoa a.s else [63]
theorem decDigits_len (n k : Nat) (h : n < 10 ^ k) (hk : 0 < k) : (Lib.decDigits n).length ≤ k := by
  induction k generalizing n with
  | zero => omega
  | succ k ih =>
    rw [Lib.decDigits]
    split
    · simp
    · by_cases h0 : k = 0
      · subst h0; simp at h; omega
      · have := ih (n / 10) (by rw [Nat.pow_succ] at h; omega) (by omega)
        simp; omega
theorem itoa_len (n : Int) (h0 : 0 ≤ n) (h1 : n ≤ 1048576) : (Lib.itoa n).length ≤ 10 := by
  unfold Lib.itoa
  rw [if_neg (by omega)]
  exact decDigits_len _ 10 (by omega) (by omega)
theorem mayI_iff {a : ID} (h : mayI a = true) : 1 ≤ a.c ∧ a.c ≤ 1048576 ∧ 1 ≤ a.s ∧ a.s ≤ 1000 := of_decide_eq_true h
theorem textI_len (a : ID) : (textI a).length ≤ 21 := by
  unfold textI
  split
  · simp
  · split
    · next h =>
      obtain ⟨h1, h2, h3, h4⟩ := mayI_iff h
      have := itoa_len a.c (by omega) (by omega)
      have := itoa_len a.s (by omega) (by omega)
      simp; omega
    · simp
theorem String_c (a : ID) : Cv 18 [idv a] (sv (textI a)) := by
  refine Ct.of_vc Tryd.f18 Tryd.func18 rfl rfl fun w H B g0 => ?_
  refine OpJ.callV (None_c a) (fun _ _ => rfl) rfl rfl rfl ?_
  refine Spl.of (fun h1 => ?_) (fun h1 => ?_)
  · exact FinP.open rfl (by rw [textI, if_pos h1]; rfl)
  refine OpJ.callV (Check_c a) (fun _ _ => rfl) rfl rfl rfl ?_
  refine Spl.of (fun h2 => ?_) (fun h2 => ?_)
  · refine FinP.open rfl ?_
    have : ¬ mayI a = true := fun e => by simp [checkI, e] at h2
    rw [textI, if_neg (by rw [h1]; decide), if_neg this]; rfl
  have hm : mayI a = true := by
    cases e : mayI a with
    | true => rfl
    | false => simp [checkI, e] at h2
  obtain ⟨a1, a2, a3, a4⟩ := mayI_iff hm
  have l1 := itoa_len a.c (by omega) (by omega)
  have l2 := itoa_len a.s (by omega) (by omega)
  refine RegP.of rfl (by decide +kernel) ?_
  refine QuietP.of (QJ.call (FormatInt_c a.c (by omega) (by omega)) (fun _ _ => rfl) rfl rfl) ?_
  refine Req.of (by simp; omega) ?_
  refine QuietP.of (QJ.call (Itoa_c a.s (by omega) (by omega)) (fun _ _ => rfl) rfl rfl) ?_
  refine Req.of (by simp; omega) ?_
  exact FinP.open rfl (by rw [textI, if_neg (by rw [h1]; decide), if_pos hm]; rfl)
end Go.Proofs.E
