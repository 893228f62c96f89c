/- Laws that the claim's text stands on: Contracts of the functions on ids; Contracts of the reference's digits and text of an id, of the law's example, of the least of some ids; Contracts of the functions on operations: what is wrong with one; Texts of operations: numbers in base 16; Operations: the reference's check; Operations: their texts, and the law OpChecks; An id's text, read again; The id of a text. The law IdOrders; Calls of the library that return a new row; An operation's text, read again: parts; An operation's text, read again; the law OpBack; Regions that draw their order, all orders one by one; An operation's text, read again; the law OpBack; Calls of functions' values; A range over a function: what an iterator is; the loop; A range over a function: one round; A range over a function: the loop; A range over a function: the law; Rows handed back; nil as data; Maps of ids: numbers of ids, tries; Tries of ids: put, get; Maps of ids: Get, Put, Last; Tries of ids as rows by rising numbers; Tries of ids: what is looked up; going over them; Maps of ids: Last; Maps of ids, as rows by rising ids; Rows as trees: sizes, joining, balance. -/
import Derived.Test.YtaojepfldokjdaaGreatDoorM1
import Derived.Test.YtaojepfldokjdaaGreatDoorM2
import Derived.Test.YtaojepfldokjdaaGreatDoorM3
import Derived.Test.YtaojepfldokjdaaGreatDoorDShelf
import Derived.KernelRfl
import Derived.Test.YtaojepfldokjdaaGreatDoorChecked
import Derived.WalkKit
import Derived.Laws.Bits64b
import Derived.Lib.Index
import Derived.Lib.IndexMore
import Derived.Lib.Split
import Derived.Lib.Strings
import Derived.RangeFuncNested
set_option linter.unusedVariables false
set_option linter.unusedSimpArgs false
section
open Go Go.Gv
attribute [local irreducible] Go.Gv.WJ Go.Gv.OpJ Go.Gv.QJ Go.Gv.Spl Go.Gv.Req Go.Gv.IdxP Go.Gv.RegP Go.Gv.FinP Go.Gv.CellP Go.Gv.CellsP Go.Gv.ArrP Go.Gv.ArrsP Go.Gv.DropP Go.Gv.ByteP Go.Gv.StoreP
set_option maxRecDepth 100000
namespace Go.Proofs.E
abbrev iv (n : Int) : AV := .d (.v (.int .i64 n))
abbrev bv (b : Bool) : AV := .d (.v (.bool b))
abbrev sv (l : List UInt8) : AV := .d (.v (.string ⟨⟨l⟩⟩))
/-- An id. -/
structure ID where
  c : Int
  s : Int
  deriving DecidableEq
abbrev idv (a : ID) : AV := .agg [iv a.c, iv a.s]
/-- The library's tables. -/
def tab64 : List Int := [0, 1, 56, 2, 57, 49, 28, 3, 61, 58, 42, 50, 38, 29, 17, 4, 62, 47, 59, 36, 45, 43, 51, 22, 53, 39, 33, 30, 24, 18, 12, 5, 63, 55, 48, 27, 60, 41, 37, 16, 46, 35, 44, 21, 52, 32, 23, 11, 54, 26, 40, 15, 34, 20, 31, 10, 25, 14, 19, 9, 13, 8, 7, 6]
theorem gPow : Tryz.prog.globalNamed "internal/strconv.uint64pow10" = some 3 := by kernel_rfl
theorem gTz : Tryz.prog.globalNamed "math/bits.deBruijn64tab" = some 5 := by kernel_rfl
def tabs : List (String × IntKind × List Int) := [("internal/strconv.uint64pow10", .u64, Lib.pow10Tab), ("math/bits.deBruijn64tab", .u8, tab64)]
def tab0 : Amb := tabAmb Tryz.prog (Nat.max 3 5 + 1) tabs (fun n hn i hi => by
  simp only [tabs, List.mem_cons, List.not_mem_nil, or_false] at hn
  rcases hn with rfl | rfl
  · have := gPow.symm.trans hi
    cases this; decide
  · have := gTz.symm.trans hi
    cases this; decide)
/-- And a word of the library's holds a number. -/
def tab : Amb := ⟨fun w => tab0.p w ∧ ∃ m, w.cell? ⟨0, 0, none⟩ = some (.int .i64 m), Nat.max (Nat.max 3 5 + 1) (0 + 1), fun {w w'} h hk => ⟨tab0.st h.1 (fun k hk' => hk k (Nat.lt_of_lt_of_le hk' (Nat.le_max_left _ _))), by
  obtain ⟨m, hm⟩ := h.2
  refine ⟨m, ?_⟩
  have := hk 0 (Nat.lt_of_lt_of_le (Nat.lt_succ_self _) (Nat.le_max_right _ _))
  simp only [World.cell?] at hm ⊢
  rw [this]; exact hm⟩⟩
theorem tab_pow {w : World} (h : tab.p w) : Lib.TabIs Tryz.prog w "internal/strconv.uint64pow10" .u64 Lib.pow10Tab := h.1 _ (.head _)
theorem tab_tz {w : World} (h : tab.p w) : Lib.TabIs Tryz.prog w "math/bits.deBruijn64tab" .u8 tab64 := h.1 _ (.tail _ (.head _))
theorem tabIs_lt {P : Program} {w : World} {n : String} {k : IntKind} {zs : List Int} {g : Nat} (hg : P.globalNamed n = some g) (h : Lib.TabIs P w n k zs) : g < w.heap.size := by
  obtain ⟨i, hi, hm⟩ := Option.bind_eq_some_iff.1 (show World.var? P w n = some _ from h)
  obtain rfl := Option.some.inj (hg.symm.trans hi)
  split at hm
  · next h1 => exact (Array.getElem?_eq_some_iff.1 h1).1
  · cases hm
theorem tab_of {w : World} (h1 : Lib.TabIs Tryz.prog w "internal/strconv.uint64pow10" .u64 Lib.pow10Tab) (h2 : Lib.TabIs Tryz.prog w "math/bits.deBruijn64tab" .u8 tab64) (h3 : ∃ m, w.cell? ⟨0, 0, none⟩ = some (.int .i64 m)) : tab.p w ∧ tab.g ≤ w.heap.size := by
  have a1 := tabIs_lt gPow h1
  have a2 := tabIs_lt gTz h2
  have a3 := lt_of_cell h3.choose_spec
  refine ⟨⟨fun n hn => ?_, h3⟩, ?_⟩
  · simp only [tabs, List.mem_cons, List.not_mem_nil, or_false] at hn
    rcases hn with rfl | rfl
    · exact h1
    · exact h2
  · exact Nat.max_le.2 ⟨Nat.succ_le_of_lt (Nat.max_lt.2 ⟨a1, a2⟩), a3⟩
abbrev Cv (f : FuncId) (avs : List AV) (r : AV) : Prop := Ct tab Tryz.prog f avs [] (fun q _ => q = r)
theorem some_iv {a b : Int} (h : a = b) : some (iv a) = some (iv b) := by rw [h]
theorem some_bv {a b : Bool} (h : a = b) : some (bv a) = some (bv b) := by rw [h]
theorem wrap_id (x : Int) (h : -9223372036854775808 ≤ x) (h' : x ≤ 9223372036854775807) : IntKind.i64.wrap x = x := by
  simp only [IntKind.wrap, IntKind.signed, IntKind.bits]; simp; omega

def mayI (a : ID) : Bool := decide (1 ≤ a.c ∧ a.c ≤ 1048576 ∧ 1 ≤ a.s ∧ a.s ≤ 1000)
def lessI (a b : ID) : Bool := decide (a.c < b.c ∨ a.c = b.c ∧ a.s < b.s)
def noneI (a : ID) : Bool := decide (a.c = 0 ∧ a.s = 0)
def checkI (a : ID) : Int := if mayI a = true then 0 else 2

theorem Check_c (a : ID) : Cv 224 [idv a] (iv (checkI a)) := by
  refine Ct.of_vc Tryz.f224 Tryz.func224 rfl rfl fun w H B g0 => ?_
  (repeat' (first | refine Spl.t rfl ?_ | refine Spl.f rfl ?_ | refine Spl.of (fun h => ?_) (fun h => ?_)))
  all_goals refine FinP.open rfl (congrArg iv ?_)
  all_goals unfold checkI mayI
  all_goals simp_all
  all_goals omega
theorem Less_c (a b : ID) : Cv 272 [idv a, idv b] (bv (lessI a b)) := by
  refine Ct.of_vc Tryz.f272 Tryz.func272 rfl rfl fun w H B g0 => ?_
  (repeat' (first | refine Spl.t rfl ?_ | refine Spl.f rfl ?_ | refine Spl.of (fun h => ?_) (fun h => ?_)))
  all_goals refine FinP.open rfl (congrArg bv ?_)
  all_goals unfold lessI
  all_goals simp_all
  all_goals omega
theorem None_c (a : ID) : Cv 202 [idv a] (bv (noneI a)) := by
  refine Ct.of_vc Tryz.f202 Tryz.func202 rfl rfl fun w H B g0 => ?_
  refine OpJ.qu (O.eqS (r := noneI a) rfl rfl rfl rfl rfl (by show Tryz.prog.stoodInHeld 54 = false; kernel_rfl) (by show Tryz.prog.eqGuardType Tryz.prog.depth 54 = false; kernel_rfl) rfl (by simp [eqRes, veq, noneI]; rfl)) rfl ?_
  exact FinP.open rfl rfl
theorem FormatInt_c (n : Int) (h0 : -9223372036854775808 ≤ n) (h1 : n ≤ 9223372036854775807) : Cv 251 [iv n, iv 10] (sv (Lib.itoa n)) :=
  Ct.of_calls_scalars [.int .i64 n, .int .i64 10] rfl fun w hw => (Tryz.strconv_FormatInt_10 n h0 h1 w (tab_pow hw)).mono fun _ _ ⟨he, _, _, hg⟩ => ⟨he, by rw [hg]; exact keeps_below (Lib.below_grow _ _ (Nat.le_refl _) _ _)⟩
theorem Itoa_c (n : Int) (h0 : -9223372036854775808 ≤ n) (h1 : n ≤ 9223372036854775807) : Cv 252 [iv n] (sv (Lib.itoa n)) :=
  Ct.of_calls_scalars [.int .i64 n] rfl fun w hw => (Tryz.strconv_Itoa n h0 h1 w (tab_pow hw)).mono fun _ _ ⟨he, _, _, hg⟩ => ⟨he, by rw [hg]; exact keeps_below (Lib.below_grow _ _ (Nat.le_refl _) _ _)⟩

def textI (a : ID) : List UInt8 := if noneI a = true then [45] else if mayI a = true then Lib.itoa a.c ++ [46] ++ Lib.itoa a.s else [63]
theorem decDigits_len (n k : Nat) (h : n < 10 ^ k) (hk : 0 < k) : (Lib.decDigits n).length ≤ k := by
  induction k generalizing n with
  | zero => omega
  | succ k ih =>
    rw [Lib.decDigits]
    split
    · simp
    · by_cases h0 : k = 0
      · subst h0; simp at h; omega
      · have := ih (n / 10) (by rw [Nat.pow_succ] at h; omega) (by omega)
        simp; omega
theorem itoa_len (n : Int) (h0 : 0 ≤ n) (h1 : n ≤ 1048576) : (Lib.itoa n).length ≤ 10 := by
  unfold Lib.itoa
  rw [if_neg (by omega)]
  exact decDigits_len _ 10 (by omega) (by omega)
theorem mayI_iff {a : ID} (h : mayI a = true) : 1 ≤ a.c ∧ a.c ≤ 1048576 ∧ 1 ≤ a.s ∧ a.s ≤ 1000 := of_decide_eq_true h
theorem textI_len (a : ID) : (textI a).length ≤ 21 := by
  unfold textI
  split
  · simp
  · split
    · next h =>
      obtain ⟨h1, h2, h3, h4⟩ := mayI_iff h
      have := itoa_len a.c (by omega) (by omega)
      have := itoa_len a.s (by omega) (by omega)
      simp; omega
    · simp
theorem String_c (a : ID) : Cv 212 [idv a] (sv (textI a)) := by
  refine Ct.of_vc Tryz.f212 Tryz.func212 rfl rfl fun w H B g0 => ?_
  refine OpJ.callV (None_c a) (fun _ _ => rfl) rfl rfl rfl ?_
  refine Spl.of (fun h1 => ?_) (fun h1 => ?_)
  · exact FinP.open rfl (by rw [textI, if_pos h1]; rfl)
  refine OpJ.callV (Check_c a) (fun _ _ => rfl) rfl rfl rfl ?_
  refine Spl.of (fun h2 => ?_) (fun h2 => ?_)
  · refine FinP.open rfl ?_
    have : ¬ mayI a = true := fun e => by simp [checkI, e] at h2
    rw [textI, if_neg (by rw [h1]; decide), if_neg this]; rfl
  have hm : mayI a = true := by
    cases e : mayI a with
    | true => rfl
    | false => simp [checkI, e] at h2
  obtain ⟨a1, a2, a3, a4⟩ := mayI_iff hm
  have l1 := itoa_len a.c (by omega) (by omega)
  have l2 := itoa_len a.s (by omega) (by omega)
  refine RegP.of rfl (by decide +kernel) ?_
  refine QuietP.of (QJ.call (FormatInt_c a.c (by omega) (by omega)) (fun _ _ => rfl) rfl rfl) ?_
  refine Req.of (by simp; omega) ?_
  refine QuietP.of (QJ.call (Itoa_c a.s (by omega) (by omega)) (fun _ _ => rfl) rfl rfl) ?_
  refine Req.of (by simp; omega) ?_
  exact FinP.open rfl (by rw [textI, if_neg (by rw [h1]; decide), if_pos hm]; rfl)
end Go.Proofs.E
end
section
open Go Go.Gv
attribute [local irreducible] Go.Gv.WJ Go.Gv.OpJ Go.Gv.QJ Go.Gv.Spl Go.Gv.Req Go.Gv.IdxP Go.Gv.RegP Go.Gv.FinP Go.Gv.CellP Go.Gv.CellsP Go.Gv.ArrP Go.Gv.ArrsP Go.Gv.DropP Go.Gv.ByteP Go.Gv.StoreP
set_option maxRecDepth 100000
namespace Go.Proofs.E
theorem Awake_c : Cv 248 [] (bv true) := by
  refine Ct.of_vc Tryz.f248 Tryz.func248 rfl rfl fun w H B g0 => ?_
  refine OpJ.callV (Less_c ⟨3, 2⟩ ⟨4, 1⟩) (fun _ _ => rfl) rfl rfl rfl ?_
  (repeat (first | refine Spl.t rfl ?_ | refine Spl.f rfl ?_))
  refine OpJ.callV (Less_c ⟨3, 2⟩ ⟨3, 1⟩) (fun _ _ => rfl) rfl rfl rfl ?_
  (repeat (first | refine Spl.t rfl ?_ | refine Spl.f rfl ?_))
  refine OpJ.callV (String_c ⟨3, 2⟩) (fun _ _ => rfl) rfl rfl rfl ?_
  (repeat (first | refine Spl.t rfl ?_ | refine Spl.f rfl ?_))
  refine FinP.open rfl (congrArg bv ?_)
  decide +kernel
end Go.Proofs.E
end
section
open Go Go.Gv
attribute [local irreducible] Go.Gv.WJ Go.Gv.OpJ Go.Gv.QJ Go.Gv.Spl Go.Gv.Req Go.Gv.IdxP Go.Gv.RegP Go.Gv.FinP Go.Gv.CellP Go.Gv.CellsP Go.Gv.ArrP Go.Gv.ArrsP Go.Gv.DropP Go.Gv.ByteP Go.Gv.StoreP
set_option maxRecDepth 100000
namespace Go.Proofs.E
abbrev cv (n : Int) : AV := .d (.v (.int .i32 n))
structure OP where
  k : Int
  i : ID
  a : ID
  ch : Int
  deriving DecidableEq
abbrev opv (o : OP) : AV := .agg [iv o.k, iv o.i.c, iv o.i.s, iv o.a.c, iv o.a.s, cv o.ch]
abbrev Di (n : Int) : List D := [.v (.int .i64 n)]
def firstI : List Int → Int
  | [] => 0
  | e :: r => if e = 0 then firstI r else e
theorem first_c (es : List Int) (hl : es.length ≤ 1000000000000000000) : Cv 186 [.full 1 (es.map Di)] (iv (firstI es)) := by
  refine Ct.of_vc Tryz.f186 Tryz.func186 rfl rfl fun w H B g0 => ?_
  refine WJ.loopF (V := Nat) (fun v => [(7, iv v)]) (fun _ => []) (fun v => es.length - v) (fun v => v ≤ es.length ∧ firstI es = firstI (es.drop v)) 0 ⟨by omega, rfl⟩ (by repeat' (first | exact trivial | exact rfl | refine And.intro ?_ ?_)) (by repeat' (first | exact trivial | exact rfl | refine And.intro ?_ ?_)) ?_
  rintro i ⟨hi, hI⟩
  refine Spl.of (fun h => ?_) (fun h => ?_)
  · have hlt : i < es.length := by have := of_decide_eq_true h; simp at this; omega
    (repeat (first | refine Spl.t rfl ?_ | refine Spl.f rfl ?_))
    refine IdxP.of (Di es[i]) (by omega) (by simp [hlt]) ?_
    have hd : firstI (es.drop i) = if es[i] = 0 then firstI (es.drop (i + 1)) else es[i] := by rw [List.drop_eq_getElem_cons hlt]; rfl
    refine Spl.of (fun h => ?_) (fun h => ?_)
    · refine FinP.open rfl (congrArg iv ?_)
      rw [hI, hd, if_neg (by simpa using h)]
    · (repeat (first | refine Spl.t rfl ?_ | refine Spl.f rfl ?_))
      refine ⟨i + 1, ⟨by omega, by rw [hI, hd, if_pos (by simpa using h)]⟩, by omega, ⟨some_iv ?_, trivial⟩, (by repeat' (first | exact trivial | exact rfl | refine And.intro ?_ ?_)), (by repeat' (first | exact trivial | exact rfl | refine And.intro ?_ ?_))⟩
      exact wrap_id _ (by omega) (by omega)
  · have hge : i = es.length := by have := of_decide_eq_false h; simp at this; omega
    (repeat (first | refine Spl.t rfl ?_ | refine Spl.f rfl ?_))
    refine FinP.open rfl (congrArg iv ?_)
    rw [hI, hge, List.drop_length]; rfl
theorem when_c (b : Bool) (e : Int) : Cv 187 [bv b, iv e] (iv (if b = true then e else 0)) := by
  refine Ct.of_vc Tryz.f187 Tryz.func187 rfl rfl fun w H B g0 => ?_
  refine Spl.of (fun h => ?_) (fun h => ?_)
  · exact FinP.open rfl (congrArg iv (by rw [if_pos h]))
  · exact FinP.open rfl (congrArg iv (by rw [if_neg (by rw [h]; decide)]))
def validI (n : Int) : Bool := decide (0 ≤ n ∧ n < 55296 ∨ 57343 < n ∧ n ≤ 1114111)
theorem Valid_c (n : Int) : Cv 225 [cv n] (bv (validI n)) := by
  refine Ct.of_vc Tryz.f225 Tryz.func225 rfl rfl fun w H B g0 => ?_
  (repeat' (first | refine Spl.t rfl ?_ | refine Spl.f rfl ?_ | refine Spl.of (fun h => ?_) (fun h => ?_)))
  all_goals refine FinP.open rfl (congrArg bv ?_)
  all_goals unfold validI
  all_goals simp_all
  all_goals omega
/-- What is wrong with an operation. -/
def checkO (o : OP) : Int :=
  if o.k ≠ 0 ∧ o.k ≠ 1 then 1
  else if o.k = 1 ∧ (noneI o.a = false ∨ o.ch ≠ 0) then 1
  else if mayI o.i = false ∨ noneI o.a = false ∧ mayI o.a = false then 2
  else if noneI o.a = false ∧ o.i.c ≤ o.a.c then 3
  else if o.k = 0 ∧ (o.ch < 32 ∨ o.ch > 1114111 ∨ 55296 ≤ o.ch ∧ o.ch ≤ 57343) then 1
  else 0
def anchorO (o : OP) : Int := if noneI o.a = true then 0 else firstI [checkI o.a, if decide (o.i.c ≤ o.a.c) = true then 3 else 0]
def badC (o : OP) : Prop := o.ch < 32 ∨ o.ch > 1114111 ∨ 55296 ≤ o.ch ∧ o.ch ≤ 57343
instance (o : OP) : Decidable (badC o) := by unfold badC; infer_instance
theorem key0 {o : OP} (k0 : o.k = 0) {A : Int} (hA : anchorO o = A) (v : Int) (hv : v = if badC o then 1 else 0) : firstI [checkI o.i, A, v] = checkO o := by
  subst hA
  unfold checkO
  rw [if_neg (by omega), if_neg (by omega)]
  unfold anchorO checkI
  have hb : (o.k = 0 ∧ (o.ch < 32 ∨ o.ch > 1114111 ∨ 55296 ≤ o.ch ∧ o.ch ≤ 57343)) = badC o := by unfold badC; simp [k0]
  simp only [hb]
  subst hv
  by_cases e1 : mayI o.i = true <;> by_cases e2 : mayI o.a = true <;> cases e3 : noneI o.a <;> by_cases e4 : o.i.c ≤ o.a.c <;> by_cases e5 : badC o <;> simp [firstI, e1, e2, e3, e4, e5]
theorem keyV {o : OP} (h : ¬ o.ch < 32) : (if (!validI o.ch) = true then (1 : Int) else 0) = if badC o then 1 else 0 := by
  unfold validI badC
  by_cases e : 0 ≤ o.ch ∧ o.ch < 55296 ∨ 57343 < o.ch ∧ o.ch ≤ 1114111
  · rw [decide_eq_true e]; exact (if_neg (by decide)).trans (if_neg (by omega)).symm
  · rw [decide_eq_false e]; exact (if_pos (by decide)).trans (if_pos (by omega)).symm
set_option maxHeartbeats 2000000 in
theorem Check5_c (o : OP) : Cv 188 [opv o] (iv (checkO o)) := by
  refine Ct.of_vc Tryz.f188 Tryz.func188 rfl rfl fun w H B g0 => ?_
  refine Spl.of (fun h1 => ?_) (fun h1 => ?_)
  · have k1 : o.k = 1 := of_decide_eq_true h1
    refine RegP.of rfl (by decide +kernel) ?_
    refine QuietP.of (QJ.call (None_c o.a) (fun _ _ => rfl) rfl rfl) ?_
    refine Spl.of (fun h2 => ?_) (fun h2 => ?_)
    · have n1 : noneI o.a = false := by simpa using h2
      (repeat (first | refine Spl.t rfl ?_ | refine Spl.f rfl ?_))
      refine QuietP.of (QJ.call (when_c true 1) (fun _ _ => rfl) rfl rfl) ?_
      refine QuietP.of (QJ.call (Check_c o.i) (fun _ _ => rfl) rfl rfl) ?_
      refine QuietP.of (QJ.call (first_c [if true = true then 1 else 0, checkI o.i] (by simp)) (fun _ _ => rfl) rfl rfl) ?_
      refine FinP.open rfl (congrArg iv ?_)
      unfold checkO
      simp [firstI, k1, n1]
    · have n1 : noneI o.a = true := by simpa using h2
      (repeat (first | refine Spl.t rfl ?_ | refine Spl.f rfl ?_))
      refine QuietP.of (QJ.call (when_c (!decide (o.ch = 0)) 1) (fun _ _ => rfl) rfl rfl) ?_
      refine QuietP.of (QJ.call (Check_c o.i) (fun _ _ => rfl) rfl rfl) ?_
      refine QuietP.of (QJ.call (first_c [if (!decide (o.ch = 0)) = true then 1 else 0, checkI o.i] (by simp)) (fun _ _ => rfl) rfl rfl) ?_
      refine FinP.open rfl (congrArg iv ?_)
      unfold checkO checkI
      simp only [firstI, k1, n1]
      by_cases e1 : o.ch = 0 <;> by_cases e2 : mayI o.i = true <;> simp [e1, e2]
  have k1 : o.k ≠ 1 := of_decide_eq_false h1
  (repeat (first | refine Spl.t rfl ?_ | refine Spl.f rfl ?_))
  refine Spl.of (fun h2 => ?_) (fun h2 => ?_)
  · have k0 : o.k = 0 := of_decide_eq_true h2
    (repeat (first | refine Spl.t rfl ?_ | refine Spl.f rfl ?_))
    refine OpJ.callV (None_c o.a) (fun _ _ => rfl) rfl rfl rfl ?_
    refine Spl.of (fun h3 => ?_) (fun h3 => ?_)
    · have n1 : noneI o.a = false := by simpa using h3
      refine RegP.of rfl (by decide +kernel) ?_
      refine QuietP.of (QJ.call (Check_c o.a) (fun _ _ => rfl) rfl rfl) ?_
      refine QuietP.of (QJ.call (when_c (decide (o.i.c ≤ o.a.c)) 3) (fun _ _ => rfl) rfl rfl) ?_
      refine QuietP.of (QJ.call (first_c [checkI o.a, if decide (o.i.c ≤ o.a.c) = true then 3 else 0] (by simp)) (fun _ _ => rfl) rfl rfl) ?_
      have hA : anchorO o = firstI [checkI o.a, if decide (o.i.c ≤ o.a.c) = true then 3 else 0] := by unfold anchorO; rw [if_neg (by rw [n1]; decide)]
      generalize firstI [checkI o.a, if decide (o.i.c ≤ o.a.c) = true then 3 else 0] = A at hA ⊢
      (refine RegP.of rfl (by decide +kernel) ?_; refine QuietP.of (QJ.call (Check_c o.i) (fun _ _ => rfl) rfl rfl) ?_; refine Spl.of (fun h4 => ?_) (fun h4 => ?_))
      · ((repeat (first | refine Spl.t rfl ?_ | refine Spl.f rfl ?_)); refine QuietP.of (QJ.call (when_c true 1) (fun _ _ => rfl) rfl rfl) ?_; refine QuietP.of (QJ.call (first_c [checkI o.i, A, if true = true then 1 else 0] (by simp)) (fun _ _ => rfl) rfl rfl) ?_; refine FinP.open rfl (congrArg iv ?_))
        exact key0 k0 hA _ (by rw [if_pos rfl]; exact (if_pos (.inl (of_decide_eq_true h4))).symm)
      · ((repeat (first | refine Spl.t rfl ?_ | refine Spl.f rfl ?_)); refine QuietP.of (QJ.call (Valid_c o.ch) (fun _ _ => rfl) rfl rfl) ?_; (repeat (first | refine Spl.t rfl ?_ | refine Spl.f rfl ?_)); refine QuietP.of (QJ.call (when_c (!validI o.ch) 1) (fun _ _ => rfl) rfl rfl) ?_; refine QuietP.of (QJ.call (first_c [checkI o.i, A, if (!validI o.ch) = true then 1 else 0] (by simp)) (fun _ _ => rfl) rfl rfl) ?_; refine FinP.open rfl (congrArg iv ?_))
        exact key0 k0 hA _ (keyV (of_decide_eq_false h4))
    · have n1 : noneI o.a = true := by simpa using h3
      (repeat (first | refine Spl.t rfl ?_ | refine Spl.f rfl ?_))
      have hA : anchorO o = 0 := by unfold anchorO; rw [if_pos n1]
      (refine RegP.of rfl (by decide +kernel) ?_; refine QuietP.of (QJ.call (Check_c o.i) (fun _ _ => rfl) rfl rfl) ?_; refine Spl.of (fun h4 => ?_) (fun h4 => ?_))
      · ((repeat (first | refine Spl.t rfl ?_ | refine Spl.f rfl ?_)); refine QuietP.of (QJ.call (when_c true 1) (fun _ _ => rfl) rfl rfl) ?_; refine QuietP.of (QJ.call (first_c [checkI o.i, 0, if true = true then 1 else 0] (by simp)) (fun _ _ => rfl) rfl rfl) ?_; refine FinP.open rfl (congrArg iv ?_))
        exact key0 k0 hA _ (by rw [if_pos rfl]; exact (if_pos (.inl (of_decide_eq_true h4))).symm)
      · ((repeat (first | refine Spl.t rfl ?_ | refine Spl.f rfl ?_)); refine QuietP.of (QJ.call (Valid_c o.ch) (fun _ _ => rfl) rfl rfl) ?_; (repeat (first | refine Spl.t rfl ?_ | refine Spl.f rfl ?_)); refine QuietP.of (QJ.call (when_c (!validI o.ch) 1) (fun _ _ => rfl) rfl rfl) ?_; refine QuietP.of (QJ.call (first_c [checkI o.i, 0, if (!validI o.ch) = true then 1 else 0] (by simp)) (fun _ _ => rfl) rfl rfl) ?_; refine FinP.open rfl (congrArg iv ?_))
        exact key0 k0 hA _ (keyV (of_decide_eq_false h4))
  · (repeat (first | refine Spl.t rfl ?_ | refine Spl.f rfl ?_))
    refine FinP.open rfl (congrArg iv ?_)
    unfold checkO
    rw [if_pos ⟨by simpa using h2, k1⟩]
end Go.Proofs.E
end
section
open Go Go.Gv Go.RowKit
attribute [local irreducible] Go.Gv.WJ Go.Gv.OpJ Go.Gv.QJ Go.Gv.Spl Go.Gv.Req Go.Gv.IdxP Go.Gv.RegP Go.Gv.FinP Go.Gv.CellP Go.Gv.CellsP Go.Gv.ArrP Go.Gv.ArrsP Go.Gv.DropP Go.Gv.ByteP Go.Gv.StoreP
set_option maxRecDepth 100000
namespace Go.Proofs.E
theorem tz_key : IntKind.u64.wrap (bits BinOp.and IntKind.u64 16 (IntKind.u64.wrap (-16)) * 285870213051353865) / 288230376151711744 = 15 := by decide +kernel
theorem tz64_calls (w : World) (h : w.cell? ⟨5, 15, none⟩ = some (.int .u8 4)) : Calls Tryz.prog 313 #[.int .u64 16] w fun e w' => e = .returned (.int .i64 4) ∧ w' = w := by
  go_enter Tryz.func313, Tryz.ntmps313
  go_wp2_with (simp only [tz_key])
  go_ret
  exact ⟨rfl, rfl⟩
abbrev u64v (n : Int) : AV := .d (.v (.int .u64 n))
abbrev u8v (n : Int) : AV := .d (.v (.int .u8 n))
theorem tab_cell {w : World} (h : tab.p w) : w.cell? ⟨5, 15, none⟩ = some (.int .u8 4) := by
  have := tab_tz h
  unfold Lib.TabIs World.var? at this
  rw [gTz] at this
  simp only [Option.bind_some] at this
  unfold World.cell?
  split at this
  · next cs t z hh =>
    simp only [Option.some.injEq] at this
    subst this
    rw [hh]
    rfl
  · cases this
theorem Tz64_c : Cv 313 [u64v 16] (iv 4) :=
  Ct.of_calls_scalars [.int .u64 16] rfl fun w hw => (tz64_calls w (tab_cell hw)).mono fun _ _ ⟨he, hw⟩ => ⟨he, by rw [hw]; exact Keeps.refl _ _⟩
theorem Tz_c : Cv 308 [u64v 16] (iv 4) := by
  refine Ct.of_vc Tryz.f308 Tryz.func308 rfl rfl fun w H B g0 => ?_
  (repeat (first | refine Spl.t rfl ?_ | refine Spl.f rfl ?_))
  refine OpJ.callV Tz64_c (fun _ _ => rfl) rfl rfl rfl ?_
  exact FinP.open rfl rfl
theorem Pow2_c : Cv 307 [iv 16] (bv true) := by
  refine Ct.of_vc Tryz.f307 Tryz.func307 rfl rfl fun w H B g0 => ?_
  exact FinP.open rfl (congrArg bv (by decide +kernel))
def hx (n : Nat) : UInt8 := if n < 10 then UInt8.ofNat (48 + n) else UInt8.ofNat (87 + n)
def hexD (n : Nat) : List UInt8 := if n < 16 then [hx n] else hexD (n / 16) ++ [hx (n % 16)]
def cellsB (acc : List UInt8) : List AV := (List.replicate (65 - acc.length) (0 : UInt8) ++ acc).map fun b => u8v b.toNat
theorem some_u64 {a b : Int} (h : a = b) : some (u64v a) = some (u64v b) := by rw [h]
theorem and15 (m : Nat) (h : m < 16 ^ 16) : IntKind.u64.wrap ((BitVec.ofInt 64 (m : Int) &&& BitVec.ofInt 64 (IntKind.u64.wrap (IntKind.u64.wrap 16 - 1))).toNat : Int) = ((m % 16 : Nat) : Int) := by
  have e1 : IntKind.u64.wrap (IntKind.u64.wrap 16 - 1) = ((15 : Nat) : Int) := by decide
  rw [e1]
  have e2 : (BitVec.ofInt 64 (m : Int)).toNat = m := by simp; omega
  have e3 : (BitVec.ofInt 64 ((15 : Nat) : Int)).toNat = 15 := by decide
  rw [BitVec.toNat_and, e2, e3, show (15 : Nat) = 2 ^ 4 - 1 from rfl, Nat.and_two_pow_sub_one_eq_mod, IntKind.wrap_u64]
  omega
def digs : List UInt8 := [48, 49, 50, 51, 52, 53, 54, 55, 56, 57, 97, 98, 99, 100, 101, 102, 103, 104, 105, 106, 107, 108, 109, 110, 111, 112, 113, 114, 115, 116, 117, 118, 119, 120, 121, 122]
theorem digs_at : ∀ i : Fin 16, digs[i.val]? = some (hx i.val) := by decide
theorem cellsB_len (acc : List UInt8) (h : acc.length ≤ 65) : (cellsB acc).length = 65 := by simp [cellsB]; omega
theorem setL_cellsB (acc : List UInt8) (d : UInt8) (h : acc.length < 65) : setL (cellsB acc) (65 - acc.length - 1) [u8v d.toNat] = cellsB (d :: acc) := by
  unfold cellsB
  simp only [setL, List.length_cons]
  rw [show 65 - acc.length = (65 - (acc.length + 1)) + 1 by omega, List.replicate_succ']
  simp only [Nat.add_sub_cancel]
  rw [List.map_append, List.map_append, List.map_append, List.append_assoc, List.set_append_right _ _ (by simp)]
  simp
theorem FormatBits_c (N : Nat) (hN : N < 16 ^ 16) : Cv 294 [.d (.v (.slice none 0 0)), u64v N, iv 16, bv false, bv false] (.tup [.d (.v (.slice none 0 0)), sv (hexD N)]) := by
  refine Ct.of_vc Tryz.f294 Tryz.func294 rfl rfl fun w H B g0 => ?_
  (repeat (first | refine Spl.t rfl ?_ | refine Spl.f rfl ?_))
  refine OpJ.callV Pow2_c (fun _ _ => rfl) rfl rfl rfl ?_
  (repeat (first | refine Spl.t rfl ?_ | refine Spl.f rfl ?_))
  refine OpJ.callV Tz_c (fun _ _ => rfl) rfl rfl rfl ?_
  refine WJ.loopF (V := Nat × List UInt8) (fun v => [(1, u64v v.1), (13, iv ((65 - v.2.length : Nat) : Int))]) (fun v => [(12, .cells (cellsB v.2))]) (fun v => v.1)
    (fun v => ∃ k, v.1 < 16 ^ k ∧ 0 < k ∧ k + v.2.length = 16 ∧ hexD v.1 ++ v.2 = hexD N) (N, []) ⟨16, hN, by omega, rfl, by simp⟩ (by repeat' (first | exact trivial | exact rfl | refine And.intro ?_ ?_)) (by repeat' (first | exact trivial | exact rfl | refine And.intro ?_ ?_)) ?_
  rintro ⟨m, acc⟩ ⟨k, hm, hk, hl, hI⟩
  have hmm : m < 16 ^ 16 := Nat.lt_of_lt_of_le hm (Nat.pow_le_pow_right (by omega) (by simp only at hl; omega))
  have hi : IntKind.i64.wrap (((65 - acc.length : Nat) : Int) - 1) = ((65 - acc.length - 1 : Nat) : Int) := by simp only at hl; rw [wrap_id _ (by omega) (by omega)]; omega
  have h16 := and15 m hmm
  simp only at hm hl hI
  have hD : hexD m = if m < 16 then [hx m] else hexD (m / 16) ++ [hx (m % 16)] := by rw [hexD]
  refine Spl.of (fun h => ?_) (fun h => ?_)
  · have hge : 16 ≤ m := by have := of_decide_eq_true h; rw [show IntKind.u64.wrap 16 = 16 by decide] at this; simp only at this; omega
    have hk2 : 2 ≤ k := by
      rcases Nat.lt_or_ge k 2 with h2 | h2
      · obtain rfl : k = 1 := by omega
        simp at hm; omega
      · exact h2
    (repeat (first | refine Spl.t rfl ?_ | refine Spl.f rfl ?_))
    refine ByteP.of (hx (m % 16)) (Int.le_trans (show (0 : Int) ≤ ((m % 16 : Nat) : Int) by omega) (Int.le_of_eq h16.symm)) ((congrArg (fun z : Int => digs[z.toNat]?) h16).trans (digs_at ⟨m % 16, by omega⟩)) ?_
    refine Req.of (by rw [hi]; omega) ?_
    refine Req.of (by
      rw [cellsB_len acc (by omega), hi]
      show 0 + _ * 1 + 1 ≤ 65; omega) ?_
    refine Req.of (by decide) ?_
    refine ⟨(m / 16, hx (m % 16) :: acc), ⟨k - 1, ?_, by omega, by simp; omega, ?_⟩, by simp only; omega, ⟨some_u64 ?_, some_iv ?_, trivial⟩, (by repeat' (first | exact trivial | exact rfl | refine And.intro ?_ ?_)), ⟨?_, trivial⟩⟩
    · simp only
      rw [Nat.div_lt_iff_lt_mul (by decide)]
      have : 16 ^ k = 16 ^ (k - 1) * 16 := by rw [← Nat.pow_succ]; congr 1; omega
      omega
    · rw [hD, if_neg (by omega)] at hI
      simpa using hI
    · show Int.fdiv (m : Int) (2 ^ min (IntKind.u64.wrap 4).toNat IntKind.u64.bits) = _
      rw [show (2 : Int) ^ min (IntKind.u64.wrap 4).toNat IntKind.u64.bits = 16 by decide, Int.fdiv_eq_ediv_of_nonneg _ (by decide)]
      simp
    · exact hi.trans (by simp; omega)
    · show some (Ent.cells (setL (cellsB acc) (0 + (IntKind.i64.wrap (((65 - acc.length : Nat) : Int) - 1)).toNat * 1) [u8v (hx (m % 16)).toNat])) = some (Ent.cells (cellsB (hx (m % 16) :: acc)))
      rw [hi, show 0 + ((65 - acc.length - 1 : Nat) : Int).toNat * 1 = 65 - acc.length - 1 by omega, setL_cellsB acc _ (by omega)]
  · have hlt : m < 16 := by have := of_decide_eq_false h; rw [show IntKind.u64.wrap 16 = 16 by decide] at this; simp only at this; omega
    rw [hD, if_pos hlt] at hI
    (repeat (first | refine Spl.t rfl ?_ | refine Spl.f rfl ?_))
    refine ByteP.of (hx m) (by simp only; omega) (digs_at ⟨m, hlt⟩) ?_
    refine Req.of (by simp only; rw [hi]; omega) ?_
    refine Req.of (by
      simp only
      rw [cellsB_len acc (by omega), hi]
      show 0 + _ * 1 + 1 ≤ 65; omega) ?_
    (repeat (first | refine Spl.t rfl ?_ | refine Spl.f rfl ?_))
    refine OpJ.shift (SJ.pub 12 (e := .cells (cellsB (hx m :: acc))) (p := .c ((List.replicate (65 - (acc.length + 1)) (0 : UInt8) ++ (hx m :: acc)).map bD)) ?_ ?_) ?_
    · show some (Ent.cells (setL (cellsB acc) (0 + (IntKind.i64.wrap (((65 - acc.length : Nat) : Int) - 1)).toNat * 1) [u8v (hx m).toNat])) = _
      rw [hi, show 0 + ((65 - acc.length - 1 : Nat) : Int).toNat * 1 = 65 - acc.length - 1 by omega, setL_cellsB acc _ (by omega)]
    · unfold pubOf cellsB
      simp only
      rw [show (fun b : UInt8 => u8v (b.toNat : Int)) = fun b => AV.d (bD b) from rfl, dAll_map]
      rfl
    refine OpJ.qu (O.sliceP (xs := (hx m :: acc).map fun b => [bD b]) rfl rfl rfl rfl rfl (by rw [hi]; omega) (by rw [hi]; omega) (by decide) (by show List.length _ = 65 * 1; simp; omega) (by decide) ?_) rfl ?_
    · show List.drop (IntKind.i64.wrap (((65 - acc.length : Nat) : Int) - 1)).toNat (List.take (65 : Int).toNat (chunkL 1 65 (List.map bD (List.replicate (65 - (acc.length + 1)) 0 ++ hx m :: acc)))) = _
      have hlen : (List.map bD (List.replicate (65 - (acc.length + 1)) 0 ++ hx m :: acc)).length = 65 := by simp; omega
      have := chunkL_one (List.map bD (List.replicate (65 - (acc.length + 1)) 0 ++ hx m :: acc))
      rw [hlen] at this
      rw [this, hi, List.take_of_length_le (by rw [List.length_map, hlen]; decide), List.map_map, List.map_append, show ((65 - acc.length - 1 : Nat) : Int).toNat = 65 - (acc.length + 1) by omega, List.drop_append_of_le_length (by simp), List.drop_of_length_le (by simp)]
      rfl
    refine OpJ.qu (O.bytesStr (ns := (hx m :: acc).map fun b => (b.toNat : Int)) rfl rfl (bytesOf_map _) rfl rfl rfl) rfl ?_
    refine FinP.open rfl ?_
    show AV.tup [_, AV.d (D.v (Value.string (strOf _)))] = _
    rw [strOf_map, ← hI]
    rfl
theorem FormatInt16i_c (N : Nat) (hN : N < 16 ^ 15) : Cv 276 [iv N, iv 16] (sv (hexD N)) := by
  refine Ct.of_vc Tryz.f276 Tryz.func276 rfl rfl fun w H B g0 => ?_
  (repeat (first | refine Spl.t rfl ?_ | refine Spl.f rfl ?_))
  have hb : Cv 294 [.d (.v (.slice none 0 0)), u64v (IntKind.u64.wrap (N : Int)), iv 16, bv (decide ((N : Int) < 0)), bv false] (.tup [.d (.v (.slice none 0 0)), sv (hexD N)]) := by
    rw [show IntKind.u64.wrap (N : Int) = N by rw [IntKind.wrap_u64]; omega, show decide ((N : Int) < 0) = false from decide_eq_false (by omega)]
    exact FormatBits_c N (by omega)
  refine OpJ.callV hb (fun _ _ => rfl) rfl rfl rfl ?_
  exact FinP.open rfl rfl
theorem FormatInt16_c (N : Nat) (hN : N < 16 ^ 15) : Cv 251 [iv N, iv 16] (sv (hexD N)) := by
  refine Ct.of_vc Tryz.f251 Tryz.func251 rfl rfl fun w H B g0 => ?_
  refine OpJ.callV (FormatInt16i_c N hN) (fun _ _ => rfl) rfl rfl rfl ?_
  exact FinP.open rfl rfl
end Go.Proofs.E
end
section
open Go Go.Gv
attribute [local irreducible] Go.Gv.WJ Go.Gv.OpJ Go.Gv.QJ Go.Gv.Spl Go.Gv.Req Go.Gv.IdxP Go.Gv.RegP Go.Gv.FinP Go.Gv.CellP Go.Gv.CellsP Go.Gv.ArrP Go.Gv.ArrsP Go.Gv.DropP Go.Gv.ByteP Go.Gv.StoreP
set_option maxRecDepth 100000
namespace Go.Proofs.E
end Go.Proofs.E
end
section
open Go Go.Gv
attribute [local irreducible] Go.Gv.WJ Go.Gv.OpJ Go.Gv.QJ Go.Gv.Spl Go.Gv.Req Go.Gv.IdxP Go.Gv.RegP Go.Gv.FinP Go.Gv.CellP Go.Gv.CellsP Go.Gv.ArrP Go.Gv.ArrsP Go.Gv.DropP Go.Gv.ByteP Go.Gv.StoreP
set_option maxRecDepth 100000
namespace Go.Proofs.E
def textO (o : OP) : List UInt8 := if checkO o ≠ 0 then [63] else if o.k = 1 then 45 :: textI o.i else 43 :: (textI o.i ++ 32 :: (textI o.a ++ 32 :: hexD o.ch.toNat))
theorem checkO_ch {o : OP} (h : checkO o = 0) (h1 : o.k ≠ 1) : 32 ≤ o.ch ∧ o.ch ≤ 1114111 := by
  unfold checkO at h
  split at h
  · cases h
  · split at h
    · cases h
    · split at h
      · cases h
      · split at h
        · cases h
        · split at h
          · cases h
          · omega
theorem hexD_len (n k : Nat) (h : n < 16 ^ k) (hk : 0 < k) : (hexD n).length ≤ k := by
  induction k generalizing n with
  | zero => omega
  | succ k ih =>
    rw [hexD]
    split
    · simp
    · by_cases h0 : k = 0
      · subst h0; simp at h; omega
      · have := ih (n / 16) (by rw [Nat.pow_succ] at h; omega) (by omega)
        simp; omega
theorem wrap_id21 (x : Int) (h : 0 ≤ x) (h' : x ≤ 1114111) : IntKind.i64.wrap x = (x.toNat : Int) := by rw [wrap_id x (by omega) (by omega)]; omega
theorem String5_c (o : OP) : Cv 208 [opv o] (sv (textO o)) := by
  refine Ct.of_vc Tryz.f208 Tryz.func208 rfl rfl fun w H B g0 => ?_
  refine OpJ.callV (Check5_c o) (fun _ _ => rfl) rfl rfl rfl ?_
  refine Spl.of (fun h1 => ?_) (fun h1 => ?_)
  · exact FinP.open rfl (congrArg sv (by rw [textO, if_pos (by simpa using h1)]))
  have c0 : checkO o = 0 := by simpa using h1
  (repeat (first | refine Spl.t rfl ?_ | refine Spl.f rfl ?_))
  refine Spl.of (fun h2 => ?_) (fun h2 => ?_)
  · have k1 : o.k = 1 := by simpa using h2
    (repeat (first | refine Spl.t rfl ?_ | refine Spl.f rfl ?_))
    refine OpJ.callV (String_c o.i) (fun _ _ => rfl) rfl rfl rfl ?_
    have l1 := textI_len o.i
    refine Req.of (by simp; omega) ?_
    exact FinP.open rfl (congrArg sv (by rw [textO, if_neg (by omega), if_pos k1]; rfl))
  have k1 : o.k ≠ 1 := by simpa using h2
  obtain ⟨b1, b2⟩ := checkO_ch c0 k1
  have l1 := textI_len o.i
  have l2 := textI_len o.a
  have l3 := hexD_len o.ch.toNat 15 (by omega) (by omega)
  refine RegP.of rfl (by decide +kernel) ?_
  refine QuietP.of (QJ.call (String_c o.i) (fun _ _ => rfl) rfl rfl) ?_
  refine Req.of (by simp; omega) ?_
  refine Req.of (by simp; omega) ?_
  refine QuietP.of (QJ.call (String_c o.a) (fun _ _ => rfl) rfl rfl) ?_
  refine Req.of (by simp; omega) ?_
  refine Req.of (by simp; omega) ?_
  have hf := FormatInt16_c o.ch.toNat (by omega)
  rw [← wrap_id21 o.ch (by omega) b2] at hf
  refine QuietP.of (QJ.call hf (fun _ _ => rfl) rfl rfl) ?_
  refine Req.of (by simp; omega) ?_
  exact FinP.open rfl (congrArg sv (by rw [textO, if_neg (by omega), if_neg k1]; simp))
theorem Awake5_c : Cv 275 [] (bv true) := by
  refine Ct.of_vc Tryz.f275 Tryz.func275 rfl rfl fun w H B g0 => ?_
  refine OpJ.callV Awake_c (fun _ _ => rfl) rfl rfl rfl ?_
  (repeat (first | refine Spl.t rfl ?_ | refine Spl.f rfl ?_))
  refine OpJ.callV (Check5_c ⟨0, ⟨2, 1⟩, ⟨1, 3⟩, 97⟩) (fun _ _ => rfl) rfl rfl rfl ?_
  (repeat (first | refine Spl.t rfl ?_ | refine Spl.f rfl ?_))
  refine OpJ.callV (String5_c ⟨0, ⟨2, 1⟩, ⟨1, 3⟩, 97⟩) (fun _ _ => rfl) rfl rfl rfl ?_
  (repeat (first | refine Spl.t rfl ?_ | refine Spl.f rfl ?_))
  refine FinP.open rfl (congrArg bv ?_)
  decide +kernel
end Go.Proofs.E
end
section
open Go Go.Gv
attribute [local irreducible] Go.Gv.WJ Go.Gv.OpJ Go.Gv.QJ Go.Gv.Spl Go.Gv.Req Go.Gv.IdxP Go.Gv.RegP Go.Gv.FinP Go.Gv.CellP Go.Gv.CellsP Go.Gv.ArrP Go.Gv.ArrsP Go.Gv.DropP Go.Gv.ByteP Go.Gv.StoreP
set_option maxRecDepth 100000
namespace Go.Proofs.E
/-! ### Digits -/
def val (l : List UInt8) : Nat := l.foldl (fun a b => 10 * a + (b.toNat - 48)) 0
end Go.Proofs.E
end
section
open Go Go.Gv
attribute [local irreducible] Go.Gv.WJ Go.Gv.OpJ Go.Gv.QJ Go.Gv.Spl Go.Gv.Req Go.Gv.IdxP Go.Gv.RegP Go.Gv.FinP Go.Gv.CellP Go.Gv.CellsP Go.Gv.ArrP Go.Gv.ArrsP Go.Gv.DropP Go.Gv.ByteP Go.Gv.StoreP
set_option maxRecDepth 100000
namespace Go.Proofs.E
theorem eqI (a b : ID) : eqT Tryz.prog 3 54 [.int .i64 a.c, .int .i64 a.s] [.int .i64 b.c, .int .i64 b.s] = some (decide (a = b)) := by
  show some (decide (a.c = b.c) && (decide (a.s = b.s) && true)) = _
  cases a; cases b; simp
theorem eqI_ok : eqOk Tryz.prog 3 54 = true := by kernel_rfl
theorem eqI_g : Tryz.prog.eqGuardType Tryz.prog.depth 54 = false := by kernel_rfl
end Go.Proofs.E
end
section
namespace Go.Gv
open Go.RowKit
end Go.Gv
end
section
open Go Go.Gv
attribute [local irreducible] Go.Gv.WJ Go.Gv.OpJ Go.Gv.QJ Go.Gv.Spl Go.Gv.Req Go.Gv.IdxP Go.Gv.RegP Go.Gv.FinP Go.Gv.CellP Go.Gv.CellsP Go.Gv.ArrP Go.Gv.ArrsP Go.Gv.DropP Go.Gv.ByteP Go.Gv.StoreP
set_option maxRecDepth 100000
namespace Go.Proofs.E
end Go.Proofs.E
end
section
open Go Go.Gv
attribute [local irreducible] Go.Gv.WJ Go.Gv.OpJ Go.Gv.QJ Go.Gv.Spl Go.Gv.Req Go.Gv.IdxP Go.Gv.RegP Go.Gv.FinP Go.Gv.CellP Go.Gv.CellsP Go.Gv.ArrP Go.Gv.ArrsP Go.Gv.DropP Go.Gv.ByteP Go.Gv.StoreP
set_option maxRecDepth 100000
namespace Go.Proofs.E
/-! ### Digits in base 16 -/
end Go.Proofs.E
end
section
namespace Go.Gv
open Go.RowKit

section
variable {X : Cx} {all : Array Oper}
/-- The i-th operation, done next. -/
def OneJ (X : Cx) (all : Array Oper) (i : Nat) (t : T) (σ : Sg) (K : T → Sg → Prop) : Prop :=
  ∀ γ H a w, St X γ H t σ a w → ∀ (next : Act → World → Prop) (Q' : Exit → Act → World → Prop), (∀ γ H t σ a w, St X γ H t σ a w → K t σ → next a w) → wpOpIn (Fr X.ro) 0 X.P all Q' i next a w
theorem OneJ.wk {i : Nat} {t t' : T} {σ : Sg} {K : T → Sg → Prop} (hw : Wk t' t) (h : OneJ X all i t' σ K) : OneJ X all i t σ K := fun γ H a w s => h γ H a w (s.wk hw (Wk.refl _))
theorem OneJ.op {i : Nat} {o : Oper} {t : T} {σ : Sg} {K : T → Sg → Prop} (ho : all[i]? = some o) (hg : o.guard = none) (h : OpJ X o t σ K) : OneJ X all i t σ K := by
  intro γ H a w s next Q' hn
  unfold wpOpIn
  simp only [ho]
  have hw : Region.wanted o (yielded all a.tmps) = true := by simp [Region.wanted, hg]
  rw [if_pos hw]
  exact ⟨fun _ _ => trivial, h γ H a w s _ _ hn⟩
theorem OneJ.guard {i : Nat} {o : Oper} {t : T} {σ : Sg} {K : T → Sg → Prop} {j : Nat} {b : Bool} {d : Nat} (ho : all[i]? = some o) (hg : o.guard = some (j, b)) (hd : ((all[j]?).bind (·.dst)) = some d) (hN : dOk o.dst X.N = true)
    (h : match look d t with
      | some (.d (.v (.bool b'))) => (b' = b → OpJ X o t σ K) ∧ (b' ≠ b → K (putT o.dst (.tup []) t) σ)
      | some (.tup []) => K (putT o.dst (.tup []) t) σ
      | _ => False) : OneJ X all i t σ K := by
  intro γ H a w s next Q' hn
  unfold wpOpIn
  simp only [ho]
  have skip : K (putT o.dst (.tup []) t) σ → next (a.put o.dst undef) w := fun h => hn γ H _ _ _ _ (s.calm (s.mem.refl γ) hN rep_undef) h
  split at h
  · next b' hb =>
    obtain ⟨u, hu, r⟩ := s.tmp d _ hb
    obtain rfl := rep_v r
    by_cases e : b' = b
    · have hw : Region.wanted o (yielded all a.tmps) = true := by simp [Region.wanted, hg, yielded, hd, hu, e]
      rw [if_pos hw]
      exact ⟨fun _ _ => trivial, h.1 e γ H a w s _ _ hn⟩
    · have hw : Region.wanted o (yielded all a.tmps) = false := by simp [Region.wanted, hg, yielded, hd, hu]; exact e
      simp only [hw, Bool.false_eq_true, if_false]
      exact ⟨fun _ _ => trivial, skip (h.2 e)⟩
  · next hb =>
    obtain ⟨u, hu, r⟩ := s.tmp d _ hb
    obtain rfl := rep_undef_eq r
    have hw : Region.wanted o (yielded all a.tmps) = false := by simp [Region.wanted, hg, yielded, hd, hu, undef]
    simp only [hw, Bool.false_eq_true, if_false]
    exact ⟨fun _ _ => trivial, skip h⟩
  · exact h.elim

def getB (l : List Bool) (i : Nat) : Bool := match l[i]? with
  | some b => b
  | none => false
def rdyOp (ls : List Bool) (o : Oper) : Bool := o.after.toList.all fun e => match Region.binds .any e with
  | false => true
  | true => getB ls e.on
/-- What may be done next. -/
def rdy (all : Array Oper) (ls : List Bool) : List Nat := (List.range all.size).filter fun i => match ls[i]?, all[i]? with
  | some false, some o => rdyOp ls o
  | _, _ => false
def allP : List Nat → (Nat → Prop) → Prop
  | [], _ => True
  | [i], p => p i
  | i :: j :: r, p => p i ∧ allP (j :: r) p
theorem allP_mem {p : Nat → Prop} : ∀ {l : List Nat}, allP l p → ∀ i, i ∈ l → p i
  | [i], h, k, hk => by simp at hk; subst hk; exact h
  | i :: j :: r, h, k, hk => by
    rcases List.mem_cons.1 hk with rfl | hk
    · exact h.1
    · exact allP_mem (l := j :: r) h.2 k hk
  | [], _, k, hk => by simp at hk

def vO (X : Cx) (all : Array Oper) (Q : T → Sg → Prop) : Nat → List Bool → T → Sg → Prop
  | 0, ls, t, σ => match rdy all ls with
    | [] => Q t σ
    | _ :: _ => False
  | n + 1, ls, t, σ => match rdy all ls with
    | [] => Q t σ
    | l => allP l fun i => match all[i]? with
      | none => False
      | some o => match o.guard with
        | none => eff X o t σ fun t σ => vO X all Q n (ls.set i true) t σ
        | some (j, b0) => match dstOf all j, dOk o.dst X.N with
          | some d, true => (match look d t with
            | some (.d (.v (.bool b))) => grd b0 b d t (fun t => eff X o t σ fun t σ => vO X all Q n (ls.set i true) t σ) (fun t => vO X all Q n (ls.set i true) (putT o.dst (.tup []) t) σ)
            | some (.tup []) => vO X all Q n (ls.set i true) (putT o.dst (.tup []) t) σ
            | _ => False)
          | _, _ => False

theorem rdy_eq (ls : List Bool) : rdy all ls = Region.ready .any all ls.toArray := by
  unfold rdy Region.ready
  apply List.filter_congr
  intro i _
  have g1 : ls.toArray.getD i true = (match ls[i]? with | some b => b | none => true) := by
    rw [Array.getD_eq_getD_getElem?]; cases h : ls[i]? <;> simp [h]
  have g2 : ∀ k, ls.toArray.getD k false = getB ls k := fun k => by
    rw [Array.getD_eq_getD_getElem?, getB]; cases h : ls[k]? <;> simp [h]
  rw [g1]
  cases h : ls[i]? with
  | none => simp
  | some b =>
    cases b with
    | true => simp
    | false =>
      cases ho : all[i]? with
      | none => simp
      | some o =>
        simp only [Bool.not_false, Bool.true_and, Option.map_some, Option.getD_some]
        unfold rdyOp
        rw [← Array.all_toList]
        congr 1
        funext e
        rw [g2]
        cases Region.binds .any e <;> rfl

theorem vO_sound {Q : T → Sg → Prop} {Q' : Exit → Act → World → Prop} (hQ : ∀ γ H t σ a w, St X γ H t σ a w → Q t σ → Q' .normal a w) : ∀ (n : Nat) (ls : List Bool) (t : T) (σ : Sg), vO X all Q n ls t σ →
    ∀ γ H a w, St X γ H t σ a w → wpAnyIn (Fr X.ro) 0 X.P .any all Q' n ls.toArray a w
  | 0, ls, t, σ, h, γ, H, a, w, s => by
    unfold vO at h
    unfold wpAnyIn
    rw [← rdy_eq]
    split at h
    · next hr => exact ⟨hr, hQ γ H t σ a w s h⟩
    · exact h.elim
  | n + 1, ls, t, σ, h, γ, H, a, w, s => by
    unfold vO at h
    unfold wpAnyIn
    rw [← rdy_eq]
    split at h
    · next hr => exact ⟨fun _ => hQ γ H t σ a w s h, fun i hi => by rw [hr] at hi; simp at hi⟩
    · next hr =>
      refine ⟨fun e => absurd e hr, fun i hi => ?_⟩
      have hp := allP_mem h i hi
      have hset : ls.toArray.setIfInBounds i true = (ls.set i true).toArray := by simp
      rw [hset]
      have ih := fun t σ (h : vO X all Q n (ls.set i true) t σ) => vO_sound hQ n (ls.set i true) t σ h
      suffices hone : OneJ X all i t σ (fun t σ => vO X all Q n (ls.set i true) t σ) from hone γ H a w s _ _ fun γ H t σ a w s' k => ih t σ k γ H a w s'
      split at hp
      · exact hp.elim
      · next o ho =>
        split at hp
        · next hg => exact .op ho hg (eff_sound hp)
        · next j b0 hg =>
          split at hp
          · next d hd hN =>
            have hd' : ((all[j]?).bind (·.dst)) = some d := by rw [dstOf_eq]; exact hd
            split at hp
            · next b hb =>
              have yes : ∀ c, b = c → eff X o ((d, .d (.v (.bool c))) :: t) σ (fun t σ => vO X all Q n (ls.set i true) t σ) → c = b0 → OneJ X all i t σ (fun t σ => vO X all Q n (ls.set i true) t σ) := fun c hc he hcb => by
                subst hc; subst hcb
                refine OneJ.wk (Wk.cons hb (Wk.refl t)) (OneJ.guard ho hg hd' hN ?_)
                rw [look_cons, if_pos rfl]
                exact ⟨fun _ => eff_sound he, fun hne => absurd rfl hne⟩
              have no : ∀ c, b = c → vO X all Q n (ls.set i true) (putT o.dst (.tup []) ((d, .d (.v (.bool c))) :: t)) σ → c ≠ b0 → OneJ X all i t σ (fun t σ => vO X all Q n (ls.set i true) t σ) := fun c hc he hcb => by
                subst hc
                refine OneJ.wk (Wk.cons hb (Wk.refl t)) (OneJ.guard ho hg hd' hN ?_)
                rw [look_cons, if_pos rfl]
                exact ⟨fun e => absurd e hcb, fun _ => he⟩
              cases b0 with
              | true => cases b with
                | true => exact yes true rfl (hp.1 rfl) rfl
                | false => exact no false rfl (hp.2 rfl) (by simp)
              | false => cases b with
                | true => exact no true rfl (hp.1 rfl) (by simp)
                | false => exact yes false rfl (hp.2 rfl) rfl
            · next hb =>
              refine OneJ.guard ho hg hd' hN ?_
              rw [hb]
              exact hp
            · exact hp.elim
          · exact hp.elim

def falses : Nat → List Bool
  | 0 => []
  | n + 1 => false :: falses n
theorem falses_eq : ∀ n, falses n = List.replicate n false
  | 0 => rfl
  | n + 1 => by rw [falses, falses_eq n, List.replicate_succ]
/-- **A region that draws its order: every order is gone through.** -/
theorem RegP.orders {id : Nat} {ops : Array Oper} {t : T} {σ : Sg} {Q : T → Sg → Prop} (hm : X.P.follows .mixedOrders = true) (h : vO X ops Q ops.size (falses ops.size) t σ) : RegP X id ops t σ Q := by
  intro Q' hQ γ H a w s
  refine wpIn_region_any hm ?_
  have s' : St X γ H t σ a { w with drawn := w.drawn + 1 } := ⟨s.lam, s.round, s.defers, s.size, s.pinned, s.tmp, s.mem.drew⟩
  have := vO_sound (Q := Q) (Q' := Post X Q') (fun γ H t σ a w s q => ⟨γ, H, t, σ, s, hQ t σ q⟩) ops.size (falses ops.size) t σ h γ H a _ s'
  rw [falses_eq] at this
  simpa using this
def trues : Nat → List Bool → List Bool
  | 0, l => l
  | n + 1, l => true :: trues n l
theorem trues_eq : ∀ n l, trues n l = List.replicate n true ++ l
  | 0, l => rfl
  | n + 1, l => by rw [trues, trues_eq n, List.replicate_succ]; rfl
/-- **A region that draws its order: quiet operations ahead in any order, the rest by all orders.** -/
theorem RegP.mix {id : Nat} {ops : Array Oper} {t : T} {σ : Sg} {Q : T → Sg → Prop} (m : Nat) (hm : X.P.follows .mixedOrders = true) (hc : (calmB2 ops m && Nat.ble m ops.size) = true)
    (h : vB X ops σ (fun t σ => vO X ops Q (ops.size - m) (trues m (falses (ops.size - m))) t σ) (ops.toList.take m) t []) : RegP X id ops t σ Q := by
  intro Q' hQ
  simp only [Bool.and_eq_true, Nat.ble_eq] at hc
  refine WJ.calmG m hm (calmB2_R hc.1) hc.2 (fun t σ h3 γ H a w lst hst hls hlst => ?_) (vB_sound _ _ _ h)
  have e : lst = (trues m (falses (ops.size - m))).toArray := by
    rw [trues_eq, falses_eq]
    apply Array.ext
    · simp [hls]; omega
    · intro j h1 h2
      have hj := hlst j (by omega)
      rw [Array.getD_eq_getD_getElem?, Array.getElem?_eq_getElem h1, Option.getD_some] at hj
      rw [hj, List.getElem_toArray, List.getElem_append]
      split
      · next h3 => simp at h3; simp [h3]
      · next h3 => simp at h3; simp; omega
  rw [e]
  exact vO_sound (Q := Q) (Q' := Post X Q') (fun γ H t σ a w s q => ⟨γ, H, t, σ, s, hQ t σ q⟩) (ops.size - m) _ t σ h3 γ H a w hst
end
end Go.Gv
end
section
open Go Go.Gv
attribute [local irreducible] Go.Gv.WJ Go.Gv.OpJ Go.Gv.QJ Go.Gv.Spl Go.Gv.Req Go.Gv.IdxP Go.Gv.RegP Go.Gv.FinP Go.Gv.CellP Go.Gv.CellsP Go.Gv.ArrP Go.Gv.ArrsP Go.Gv.DropP Go.Gv.ByteP Go.Gv.StoreP
set_option maxRecDepth 100000
namespace Go.Proofs.E
theorem checkO_0 {o : OP} (h : checkO o = 0) : mayI o.i = true ∧ ((o.k = 1 ∧ noneI o.a = true ∧ o.ch = 0) ∨ (o.k = 0 ∧ (noneI o.a = true ∨ mayI o.a = true) ∧ 32 ≤ o.ch ∧ o.ch ≤ 1114111)) := by
  unfold checkO at h
  split at h
  · cases h
  · next h1 =>
    split at h
    · cases h
    · next h2 =>
      split at h
      · cases h
      · next h3 =>
        split at h
        · cases h
        · next h4 =>
          split at h
          · cases h
          · next h5 =>
            have m1 : mayI o.i = true := by
              cases e : mayI o.i with
              | true => rfl
              | false => exact absurd (.inl e) h3
            have m2 : noneI o.a = true ∨ mayI o.a = true := by
              cases e : noneI o.a with
              | true => exact .inl rfl
              | false =>
                cases e' : mayI o.a with
                | true => exact .inr rfl
                | false => exact absurd (.inr ⟨e, e'⟩) h3
            refine ⟨m1, ?_⟩
            by_cases k1 : o.k = 1
            · left
              refine ⟨k1, ?_, ?_⟩
              · cases e : noneI o.a with
                | true => rfl
                | false => exact absurd ⟨k1, .inl e⟩ h2
              · by_cases e : o.ch = 0
                · exact e
                · exact absurd ⟨k1, .inr e⟩ h2
            · right
              have k0 : o.k = 0 := by omega
              exact ⟨k0, m2, by omega, by omega⟩
theorem none_eq {a : ID} (h : noneI a = true) : a = ⟨0, 0⟩ := by
  have := of_decide_eq_true h
  cases a; simp_all
theorem eqO (o p : OP) : eqT Tryz.prog 4 56 [.int .i64 o.k, .int .i64 o.i.c, .int .i64 o.i.s, .int .i64 o.a.c, .int .i64 o.a.s, .int .i32 o.ch] [.int .i64 p.k, .int .i64 p.i.c, .int .i64 p.i.s, .int .i64 p.a.c, .int .i64 p.a.s, .int .i32 p.ch] = some (decide (o = p)) := by
  show some (decide (o.k = p.k) && ((decide (o.i.c = p.i.c) && (decide (o.i.s = p.i.s) && true)) && ((decide (o.a.c = p.a.c) && (decide (o.a.s = p.a.s) && true)) && (decide (o.ch = p.ch) && true)))) = _
  obtain ⟨a, ⟨b, c⟩, ⟨d, e⟩, f⟩ := o
  obtain ⟨a', ⟨b', c'⟩, ⟨d', e'⟩, f'⟩ := p
  simp [Bool.and_assoc, and_assoc]
theorem eqO_ok : eqOk Tryz.prog 4 56 = true := by kernel_rfl
theorem eqO_g : Tryz.prog.eqGuardType Tryz.prog.depth 56 = false := by kernel_rfl
end Go.Proofs.E
end
section
namespace Go.Gv
open Go.RowKit
/-- What a function's value stands for. -/
inductive FnIs : AV → FuncId → List AV → Prop where
  | fnp (f : FuncId) (cs : List AV) : FnIs (.fnp f cs) f cs
  | fn (f : FuncId) (ds : List D) : FnIs (.d (.fn f ds)) f (ds.map .d)
theorem FnIs.rep {a : AV} {f : FuncId} {caps : List AV} (h : FnIs a f caps) {γ : Ids} {H : HF} {u : Value} (r : Rep γ H a u) :
    ∃ us : List Value, u = .func (.func f) #[] us.toArray ∧ us.length = caps.length ∧ ∀ (j : Nat) (a : AV) (u : Value), caps[j]? = some a → us[j]? = some u → Rep γ H a u := by
  cases h with
  | fnp f cs => cases r with
    | fnp _ _ us hl hr => exact ⟨us, rfl, hl, hr⟩
  | fn f ds => cases rep_d r with
    | fn _ _ us hl hr => exact ⟨us, rfl, by simp [hl], fun j a u h1 h2 => by
        simp only [List.getElem?_map, Option.map_eq_some_iff] at h1
        obtain ⟨x, hx, rfl⟩ := h1
        exact .d _ _ (hr j x u hx h2)⟩
theorem reps_app {γ : Ids} {H : HF} {as1 bs : List AV} {us vs : List Value} (hl : us.length = as1.length) (h1 : ∀ (j : Nat) (a : AV) (u : Value), as1[j]? = some a → us[j]? = some u → Rep γ H a u) (h2 : ∀ (j : Nat) (a : AV) (u : Value), bs[j]? = some a → vs[j]? = some u → Rep γ H a u) :
    ∀ (j : Nat) (a : AV) (u : Value), (as1 ++ bs)[j]? = some a → (us ++ vs)[j]? = some u → Rep γ H a u := fun j a u ha hu => by
  by_cases hj : j < as1.length
  · rw [List.getElem?_append_left hj] at ha
    rw [List.getElem?_append_left (by omega)] at hu
    exact h1 j a u ha hu
  · rw [List.getElem?_append_right (by omega)] at ha
    rw [List.getElem?_append_right (by omega), hl] at hu
    exact h2 _ a u ha hu
section call
variable {X : Cx} {d : Option Nat} {ty : TypeId} {pos : String} {aft : Array Edge} {g : Option (Nat × Bool)} {t : T} {σ : Sg} {K : T → Sg → Prop}
theorem call_runT {f : FuncId} {x : Operand} {us : List Value} {args : Array Operand} {tys : Array TypeId} {w : World} {a : Act} (hx : a.eval x = .func (.func f) #[] us.toArray) (hok : callOk X.P f) :
    (execOp a.eval ⟨d, .call { callee := .value x, args := args, argTypes := tys }, ty, pos, aft, g⟩).run X.P w = .ok (.enter f (args.map a.eval ++ us.toArray)) w := by
  have := hok (args.map a.eval ++ us.toArray) w
  simpa [execOp, resolve, hx, Deferred.ofValue, invoke] using this
/-- A function's value is called; it is lent private things. -/
theorem OpJ.callT {f : FuncId} {x : Operand} {av : AV} {args : Array Operand} {tys : Array TypeId} {avs caps : List AV} {σL : Sg} {Q : AV → Sg → Prop} (hx : ge t x = some av) (hf : FnIs av f caps) (hc : Ct X.Λ X.P f (avs ++ caps) σL Q) (hok : callOk X.P f) (hN : dOk d X.N = true)
    (ha : geAll t args.toList = some avs) (hs : Wk σL σ) (k : ∀ r σ', Q r σ' → takes σ' σL t σ X.pin = true ∧ K (putT d r t) (σ' ++ rest σL σ)) :
    OpJ X ⟨d, .call { callee := .value x, args := args, argTypes := tys }, ty, pos, aft, g⟩ t σ K := by
  intro γ H a w s next Q' hk
  obtain ⟨us, hu, hul, hur⟩ := hf.rep (ge_sound s.tmp hx)
  rw [semAt_of (by simp), call_runT hu hok, Oper.uponIn_enter]
  refine ⟨fun h => by simp [Fr] at h, ?_⟩
  have hal : (args.map a.eval).toList.length = avs.length := by have := congrArg List.length (geAll_map ha); simpa using this
  have := hc X.ro γ H w ((args.map a.eval).toList ++ us) (s.lamAt σL hs) (s.mem.wk hs).self (by simp only [List.length_append, hal, hul]) (reps_app hal (by
    have := ge_list (γ := γ) (H := H) (a := a) (fun x _ v hv => ge_sound s.tmp hv) (geAll_map ha)
    simpa using this) hur)
  rw [show ((args.map a.eval).toList ++ us).toArray = args.map a.eval ++ us.toArray from Array.toList_inj.1 (by simp)] at this
  refine this.mono ?_
  rintro e w' ⟨v, r, σ', γ', H', rfl, hq, hr, hag, hpin, hm⟩
  obtain ⟨htk, hK⟩ := k r σ' hq
  have tk : ∀ j e, look j σ' = some e → (∃ e, look j σL = some e ∧ e.var = true) ∨ isFresh j t (rest σL σ) X.pin = true := fun j e hj => by
    have := List.all_eq_true.1 htk _ (look_mem hj)
    rcases Bool.or_eq_true_iff.1 this with h | h
    · left
      unfold lentVar at h
      split at h
      · next e hcs => exact ⟨e, hcs, h⟩
      · cases h
    · exact .inr h
  have same : ∀ j, (∀ e, look j σ' = some e → isFresh j t (rest σL σ) X.pin = true → False) → γ j = γ' j := fun j hj => by
    cases hx : look j σ' with
    | none => exact hag j hx
    | some e =>
      rcases tk j e hx with ⟨e', h, hv⟩ | h
      · exact hpin j e' h hv
      · exact (hj e hx h).elim
  refine hk γ' H' _ _ _ w' (s.step (σr := rest σL σ) hm (fun b hb => blks_in hs hb) wk_rest (fun i e hi => ?_) (fun i e hi => ⟨same i fun f _ hf => ?_, fun j hj => same j fun f _ hf => ?_⟩) (fun i hi => same i fun f _ hf => ?_) (fun i x hi j hj => same j fun f _ hf => ?_) hN hr) hK
  · cases hx : look i σ' with
    | none => rfl
    | some f =>
      rcases tk i f hx with ⟨e', h, hv⟩ | h
      · rw [look_rest, h] at hi; cases hi
      · exact absurd rfl (fresh_s h hi).1
  · exact (fresh_s hf hi).1 rfl
  · have := (fresh_s hf hi).2; rw [hj] at this; cases this
  · exact fresh_p hf hi rfl
  · have := fresh_t hf hi; rw [hj] at this; cases this
/-- The value of a function that turns a private thing is called. -/
theorem OpJ.callRes {x : Operand} {args : Array Operand} {tys : Array TypeId} {j : Nat} {ρ : Res} {st : ρ.S} {avs : List AV} (hP : ρ.P = X.P) (hΛ : ρ.Λ = X.Λ) (hx : ge t x = some (.d (.v ρ.fv))) (hj : look j σ = some (.res ρ st)) (ha : geAll t args.toList = some avs) (ho : avs.all AV.open = true)
    (hN : dOk d X.N = true) (hf : isFresh j t (rest [(j, .res ρ st)] σ) X.pin = true) (hp : ρ.pre st avs) (k : ∀ b st', ρ.step st avs b st' → K (putT d (.d (.v (.bool b))) t) ((j, .res ρ st') :: rest [(j, .res ρ st)] σ)) :
    OpJ X ⟨d, .call { callee := .value x, args := args, argTypes := tys }, ty, pos, aft, g⟩ t σ K := by
  intro γ H a w s next Q' hk
  have hfv := rep_v (ge_sound s.tmp hx)
  have hok : ρ.ok st (γ j).o H w := s.mem.ent j _ hj
  have hal : (args.map a.eval).toList.length = avs.length := by have := congrArg List.length (geAll_map ha); simpa using this
  have hre := ge_list (γ := γ) (H := H) (a := a) (fun x _ v hv => ge_sound s.tmp hv) (geAll_map ha)
  have key := ρ.run hp H w (γ j).o (args.map a.eval).toList (by rw [hΛ]; exact s.lam.keep s.mem.keep fun b hb => (s.mem.fresh j _ hj b hb).elim (fun h => Nat.le_trans s.lam.2.1 h) (s.lam.2.2 b)) hok s.mem.hok (fun b hb => s.mem.free j _ hj b hb) hal
    (fun i b u hb hu γ2 => by
      have h1 := List.all_eq_true.1 ho b (mem_of_get hb)
      exact (hre i b u hb (by simpa using hu)).free h1)
  rw [hP] at key
  have fin : ∀ v w', (∃ b s' H' O', v = .bool b ∧ ρ.step st avs b s' ∧ ρ.ok s' O' H' w' ∧ Stp w H (γ j).o w' H' O') → next (a.put d v) w' := by
    rintro v w' ⟨b, s', H', O', rfl, hstep, hok', hS⟩
    have o : ∀ i, i ≠ j → γ i = upd γ j ⟨(γ j).b, (γ j).n, O'⟩ i := fun i hi => (upd_other γ _ hi).symm
    have one : ∀ i f, look i ([(j, Ent.res ρ s')] : Sg) = some f → i = j ∧ f = .res ρ s' := fun i f hi => by
      rw [look_cons] at hi
      split at hi
      · next e' => exact ⟨e', by simpa using hi.symm⟩
      · simp [look] at hi
    have hm : Mem w H (γ j).o (upd γ j ⟨(γ j).b, (γ j).n, O'⟩) H' [(j, .res ρ s')] w' := by
      refine ⟨hS.keep, hS.hle, hS.hnew, hS.hok, fun i f hi => ?_, fun i f hi b hb => ?_, fun i f hi b hb => ?_, fun i f l f' b hi hl hb hb' => ?_⟩
      · obtain ⟨rfl, rfl⟩ := one i f hi
        show ρ.ok s' (upd γ i _ i).o H' w'
        rw [upd_same]; exact hok'
      · obtain ⟨rfl, rfl⟩ := one i f hi
        simp only [blk, upd_same] at hb
        exact hS.free b hb
      · obtain ⟨rfl, rfl⟩ := one i f hi
        simp only [blk, upd_same] at hb
        exact (hS.own b hb).symm
      · obtain ⟨rfl, _⟩ := one i f hi; obtain ⟨rfl, _⟩ := one l f' hl; rfl
    refine hk _ H' _ _ _ w' (s.step (σr := rest [(j, .res ρ st)] σ) hm (fun b hb => ⟨j, _, hj, by rw [look_rest, look_cons, if_pos rfl]; rfl, hb⟩) wk_rest (fun i e hi => ?_) (fun i e hi => ⟨o i ?_, fun l hl => o l fun e => ?_⟩) (fun i hi => o i (fresh_p hf hi)) (fun i y hi l hl => o l fun e => ?_) hN rep_bool) (k b s' hstep)
    · rw [look_cons, if_neg (fresh_s hf hi).1]; rfl
    · exact (fresh_s hf hi).1
    · subst e; rw [(fresh_s hf hi).2] at hl; cases hl
    · subst e; rw [fresh_t hf hi] at hl; cases hl
  rcases key with ⟨f, caps, hfe, hcok, hcalls⟩ | ⟨l, f, tmps, asg, body, hfe, hy, hround⟩
  · rw [semAt_of (by simp), call_runT (us := caps.toList) (by rw [hfv, hfe]) hcok, Oper.uponIn_enter]
    refine ⟨fun h => by simp [Fr] at h, ?_⟩
    simp only [Array.toArray_toList] at hcalls ⊢
    have hcalls' := hcalls.mono (R' := fun e w'' => match e with
      | .returned v => next (a.put d v) w''
      | .panicked chain => Q' (.panic chain) a w''
      | .outgrown => LetsOut Q') fun e w' ⟨v, he, hR⟩ => by subst he; exact fin v w' hR
    cases hro : X.ro with
    | none => exact hcalls'.mono fun e w' h => by cases e <;> exact h
    | some l0 => exact CallsIn.inRound l0 (hcalls'.mono fun e w' h => by cases e <;> exact h)
  · have hrun : (execOp a.eval ⟨d, .call { callee := .value x, args := args, argTypes := tys }, ty, pos, aft, g⟩).run X.P w = .ok (.round l f tmps asg body) w := by
      have hq : a.eval x = .func (.yield l) #[] #[] := by rw [hfv, hfe]
      simp only [Array.toArray_toList] at hy
      simpa [execOp, resolve, hq, Deferred.ofValue, invoke] using hy
    rw [semAt_of (by simp), hrun, Oper.uponIn_round]
    refine ⟨fun h => by simp [Fr] at h, ?_⟩
    have hr' := hround.mono (R' := fun e w'' => match e with
      | .returned v => next (a.put d v) w''
      | .panicked chain => Q' (.panic chain) a w''
      | .outgrown => LetsOut Q') fun e w' ⟨v, he, hR⟩ => by subst he; exact fin v w' hR
    cases hro : X.ro with
    | none => exact hr'.mono fun e w' h => by cases e <;> exact h
    | some l0 => exact (show RoundIn (Fr none) 0 X.P l f tmps asg body w _ from hr'.mono fun e w' h => by cases e <;> exact h)
end call
end Go.Gv
end
section
namespace Go.Gv
open Go.RowKit

/-! ### What an iterator hands over -/
def Can (ρ : Res) : ρ.S → List (List AV) → Prop
  | _, [] => True
  | s, x :: L => ρ.pre s x ∧ ∀ s', ρ.step s x true s' → Can ρ s' L
inductive Feeds (ρ : Res) : ρ.S → List (List AV) → Bool → ρ.S → Prop where
  | nil (s : ρ.S) : Feeds ρ s [] true s
  | go {s s1 s2 : ρ.S} {x : List AV} {L : List (List AV)} {b : Bool} (h : ρ.step s x true s1) (k : Feeds ρ s1 L b s2) : Feeds ρ s (x :: L) b s2
  | stop {s s1 : ρ.S} {x : List AV} {L : List (List AV)} (h : ρ.step s x false s1) : Feeds ρ s (x :: L) false s1
theorem Can.app {ρ : Res} : ∀ {L M : List (List AV)} {s : ρ.S}, Can ρ s (L ++ M) → Can ρ s L ∧ ∀ s', Feeds ρ s L true s' → Can ρ s' M
  | [], M, s, h => ⟨trivial, fun s' k => by cases k; exact h⟩
  | x :: L, M, s, h => ⟨⟨h.1, fun s' k => (Can.app (h.2 s' k)).1⟩, fun s' k => by
      cases k with
      | go h1 k1 => exact (Can.app (h.2 _ h1)).2 s' k1⟩
theorem Feeds.app {ρ : Res} {L M : List (List AV)} {s s1 s2 : ρ.S} {b : Bool} (h : Feeds ρ s L true s1) (k : Feeds ρ s1 M b s2) : Feeds ρ s (L ++ M) b s2 := by
  generalize hb : true = c at h
  induction h with
  | nil s => exact k
  | go h1 _ ih => exact .go h1 (ih k hb)
  | stop h1 => cases hb
theorem Feeds.cut {ρ : Res} {L : List (List AV)} (M : List (List AV)) {s s1 : ρ.S} (h : Feeds ρ s L false s1) : Feeds ρ s (L ++ M) false s1 := by
  generalize hb : false = c at h
  induction h with
  | nil s => cases hb
  | go h1 _ ih => exact .go h1 (ih hb)
  | stop h1 => exact .stop h1
/-- A function that hands over some elements, one behind the other, till it is told to end. -/
def Iter (Λ : Amb) (P : Program) (f : FuncId) (caps : List AV) (L : List (List AV)) : Prop :=
  ∀ (ρ : Res), ρ.P = P → ρ.Λ = Λ → ∀ s, Can ρ s L → Ct Λ P f (.d (.v ρ.fv) :: caps) [(0, .res ρ s)] (fun _ σ' => ∃ b s', Feeds ρ s L b s' ∧ σ' = [(0, .res ρ s')])

/-! ### Names -/
def nm0 : AV → List Nat
  | .box i _ => [i]
  | .boxX i _ => [i]
  | .arr i _ _ => [i]
  | .suf i _ _ _ => [i]
  | .mp i => [i]
  | _ => []
def nm1 : AV → List Nat
  | .agg cs => cs.flatMap nm0
  | .tup cs => cs.flatMap nm0
  | .fnp _ cs => cs.flatMap nm0
  | a => nm0 a
def flat0 : AV → Bool
  | .agg _ => false
  | .tup _ => false
  | .fnp _ _ => false
  | _ => true
def flat1 : AV → Bool
  | .agg cs => cs.all flat0
  | .tup cs => cs.all flat0
  | .fnp _ cs => cs.all flat0
  | _ => true
theorem has0_nm {i : Nat} {a : AV} (h : has0 i a = true) (hf : flat0 a = true) : i ∈ nm0 a := by
  cases a <;> simp_all [has0, nm0, flat0]
theorem any_has0 {i : Nat} {cs : List AV} (hf : cs.all flat0 = true) (h : cs.any (has0 i) = true) : i ∈ cs.flatMap nm0 := by
  obtain ⟨x, hx, h1⟩ := List.any_eq_true.1 h
  exact List.mem_flatMap.2 ⟨x, hx, has0_nm h1 (List.all_eq_true.1 hf x hx)⟩
theorem has1_nm {i : Nat} {a : AV} (h : has1 i a = true) (hf : flat1 a = true) : i ∈ nm1 a := by
  cases a with
  | agg cs => exact any_has0 hf h
  | tup cs => exact any_has0 hf h
  | fnp f cs => exact any_has0 hf h
  | d x => simp [has1, has0] at h
  | full k xs => simp [has1, has0] at h
  | junk => simp [has1, has0] at h
  | box j off => simp only [has1, has0, Nat.beq_eq] at h; subst h; simp [nm1, nm0]
  | boxX j off => simp only [has1, has0, Nat.beq_eq] at h; subst h; simp [nm1, nm0]
  | arr j k n => simp only [has1, has0, Nat.beq_eq] at h; subst h; simp [nm1, nm0]
  | suf j k l n => simp only [has1, has0, Nat.beq_eq] at h; subst h; simp [nm1, nm0]
  | mp j => simp only [has1, has0, Nat.beq_eq] at h; subst h; simp [nm1, nm0]
def nm2 : AV → List Nat
  | .agg cs => cs.flatMap nm1
  | .tup cs => cs.flatMap nm1
  | .fnp _ cs => cs.flatMap nm1
  | a => nm0 a
def flat2 : AV → Bool
  | .agg cs => cs.all flat1
  | .tup cs => cs.all flat1
  | .fnp _ cs => cs.all flat1
  | _ => true
theorem any_has {i : Nat} {cs : List AV} (hf : cs.all flat1 = true) (h : cs.any (has1 i) = true) : i ∈ cs.flatMap nm1 := by
  obtain ⟨x, hx, h1⟩ := List.any_eq_true.1 h
  exact List.mem_flatMap.2 ⟨x, hx, has1_nm h1 (List.all_eq_true.1 hf x hx)⟩
theorem has2_nm {i : Nat} {a : AV} (h : has2 i a = true) (hf : flat2 a = true) : i ∈ nm2 a := by
  cases a with
  | agg cs => exact any_has hf h
  | tup cs => exact any_has hf h
  | fnp f cs => exact any_has hf h
  | d x => simp [has2, has1, has0] at h
  | full k xs => simp [has2, has1, has0] at h
  | junk => simp [has2, has1, has0] at h
  | box j off => simp only [has2, has1, has0, Nat.beq_eq] at h; subst h; simp [nm2, nm0]
  | boxX j off => simp only [has2, has1, has0, Nat.beq_eq] at h; subst h; simp [nm2, nm0]
  | arr j k n => simp only [has2, has1, has0, Nat.beq_eq] at h; subst h; simp [nm2, nm0]
  | suf j k l n => simp only [has2, has1, has0, Nat.beq_eq] at h; subst h; simp [nm2, nm0]
  | mp j => simp only [has2, has1, has0, Nat.beq_eq] at h; subst h; simp [nm2, nm0]
/-- The names that some temporaries speak of. -/
def namesOf : T → List Nat
  | [] => []
  | (_, a) :: t => nm2 a ++ namesOf t
def flatT (t : T) : Bool := t.all fun p => flat2 p.2
theorem names_t {t : T} (hf : flatT t = true) {i j : Nat} {a : AV} (hj : look j t = some a) (hi : has2 i a = true) : i ∈ namesOf t := by
  have h1 := look_mem hj
  have h2 := List.all_eq_true.1 hf _ h1
  have h3 := has2_nm hi h2
  clear hj hf h2 hi
  induction t with
  | nil => simp at h1
  | cons p t ih =>
    obtain ⟨k, b⟩ := p
    simp only [namesOf, List.mem_append]
    rcases List.mem_cons.1 h1 with h | h
    · cases h; exact .inl h3
    · exact .inr (ih h)
end Go.Gv
end
section
namespace Go.Gv
open Go.RowKit

def zipT : List Nat → List AV → T → T
  | p :: ps, a :: as1, t => zipT ps as1 ((p, a) :: t)
  | _, _, t => t
theorem zip_ok {γ : Ids} {H : HF} {N : Nat} : ∀ (ps : List Nat) (as1 : List AV) (us : List Value) (t : T) (tm : Array Value), TmpOk γ H t tm → tm.size = N → (∀ p, p ∈ ps → p < N) → us.length = as1.length →
    (∀ (j : Nat) (a : AV) (u : Value), as1[j]? = some a → us[j]? = some u → Rep γ H a u) → TmpOk γ H (zipT ps as1 t) ((ps.zip us).foldl (fun tm p => tm.setIfInBounds p.1 p.2) tm) ∧ ((ps.zip us).foldl (fun tm p => tm.setIfInBounds p.1 p.2) tm).size = N
  | [], as1, us, t, tm, h, hs, _, _, _ => ⟨h, hs⟩
  | p :: ps, [], us, t, tm, h, hs, _, hl, _ => by
    have : us = [] := List.length_eq_zero_iff.1 hl
    subst this
    exact ⟨h, hs⟩
  | p :: ps, a :: as1, [], t, tm, h, hs, _, hl, _ => by simp at hl
  | p :: ps, a :: as1, u :: us, t, tm, h, hs, hp, hl, hr => by
    have hlt : p < tm.size := by rw [hs]; exact hp p (by simp)
    refine zip_ok ps as1 us ((p, a) :: t) (tm.setIfInBounds p u) (fun i b hi => ?_) (by simpa using hs) (fun q hq => hp q (List.mem_cons_of_mem _ hq)) (by simpa using hl) (fun j b v hb hv => hr (j + 1) b v (by simpa using hb) (by simpa using hv))
    rw [look_cons] at hi
    split at hi
    · next e =>
      subst e
      simp only [Option.some.injEq] at hi; subst hi
      exact ⟨u, by simp [hlt], hr 0 a u rfl rfl⟩
    · next e =>
      obtain ⟨v, hv, r⟩ := h i b hi
      exact ⟨v, by rw [Array.getElem?_setIfInBounds, if_neg (fun h => e h.symm)]; exact hv, r⟩

/-- The world with another record of a loop. -/
theorem hok_loop {H : HF} {w : World} {l : Nat} {r r' : Loop} (h : HOk H w) (hl : w.heap[l]? = some (.loop r)) : HOk H (w.putObj l (.loop r')) := by
  have hne : ∀ c x v, w.cell? ⟨c, x, none⟩ = some v → c ≠ l := fun c x v hc e => by subst e; simp [World.cell?, hl] at hc
  refine ⟨fun c x v hv => ?_, fun c x y hv => ?_⟩
  · have := h.c c x v hv
    have h2 := hne c x v this
    simp only [World.cell?] at this ⊢
    rw [World.putObj_heap_other h2]; exact this
  · have := h.m c x y hv
    rw [World.putObj_heap_other fun e => by subst e; rw [hl] at this; cases this]; exact this
theorem mem_loop {w0 w : World} {H0 H : HF} {B : Nat → Prop} {γ : Ids} {σ : Sg} {l : Nat} {r r' : Loop} (h : Mem w0 H0 B γ H σ w) (hl : w.heap[l]? = some (.loop r)) (h0 : l < w0.heap.size) (hB : ¬ B l) :
    Mem (w0.putObj l (.loop r')) H0 B γ H σ (w.putObj l (.loop r')) := by
  have hb : ∀ i e b, look i σ = some e → blk γ i e b → b ≠ l := fun i e b hi hb e' => by
    subst e'
    rcases h.fresh i e hi b hb with h1 | h1
    · omega
    · exact hB h1
  refine ⟨⟨h.keep.os, h.keep.tape, h.keep.output, by simpa using h.keep.size, fun k hk hk' => ?_⟩, h.hle, ?_, hok_loop h.hok hl, fun i e hi => (h.ent i e hi).later (HLe.refl _) (by simp) fun b hbb => World.putObj_heap_other (hb i e b hi hbb), h.free, fun i e hi b hbb => by simpa using h.fresh i e hi b hbb, h.apart⟩
  · by_cases e : k = l
    · subst e
      rw [World.putObj_heap_same (lt_of_heap hl), World.putObj_heap_same h0]
    · rw [World.putObj_heap_other e, World.putObj_heap_other e]
      exact h.keep.block k (by simpa using hk) hk'
  · have := h.hnew
    refine ⟨fun b o v hv => ?_, fun b x hv => ?_⟩
    · simpa using this.c b o v hv
    · simpa using this.m b x hv

section
variable {α V : Type} (enc : α → List AV) (L : List α) (SS : V → Sg) (I : List α → V → Prop) (Ix : Code → List α → V → Prop)
structure ROk (l D : Nat) (outer : Bool) (rc : LoopState → Option Code → Loop) (pins : List Nat) (γe : Ids) (t : T) (tmps : Array Value) (s : List α × Option Code) (O : Nat → Prop) (H : HF) (w : World) (v : V) (γ : Ids) : Prop where
  inv : match s.2 with | none => I s.1 v | some c => Ix c s.1 v
  pin : ∀ i, i ∈ pins → γ i = γe i
  tmp : TmpOk γ H t tmps
  rcd : w.heap[l]? = some (.loop (rc (match s.2 with | none => .ready | some _ => .done) s.2))
  dfr : outer = true → w.heap[D]? = some (.deferred (some []))
  lt : ∀ b, O b → b < w.heap.size
  ol : O l
  od : outer = true → O D
  ent : ∀ i e, look i (SS v) = some e → EntOk γ H w i e
  blk : ∀ i e b, look i (SS v) = some e → Gv.blk γ i e b → O b ∧ b ≠ l ∧ (outer = true → b ≠ D)
  apart : ∀ i e j e' b, look i (SS v) = some e → look j (SS v) = some e' → Gv.blk γ i e b → Gv.blk γ j e' b → i = j
theorem ROk.later {l D : Nat} {outer : Bool} {rc : LoopState → Option Code → Loop} {pins : List Nat} {γe : Ids} {t : T} {tmps : Array Value} {s : List α × Option Code} {O : Nat → Prop} {H H' : HF} {w w' : World} {v : V} {γ : Ids}
    (h : ROk SS I Ix l D outer rc pins γe t tmps s O H w v γ) (hle : HLe H H') (hs : w.heap.size ≤ w'.heap.size) (hb : ∀ b, O b → w'.heap[b]? = w.heap[b]?) : ROk SS I Ix l D outer rc pins γe t tmps s O H' w' v γ :=
  ⟨h.inv, h.pin, h.tmp.mono hle, (hb l h.ol).trans h.rcd, fun o => (hb D (h.od o)).trans (h.dfr o), fun b hbb => Nat.lt_of_lt_of_le (h.lt b hbb) hs, h.ol, h.od, fun i e hi => (h.ent i e hi).later hle hs fun b hbb => hb b (h.blk i e b hi hbb).1, h.blk, h.apart⟩
/-- What a round ends in. -/
def RPost (p : List α) : Qt
  | .normal, _, σ => ∃ v', I p v' ∧ Has (SS v') σ
  | .ret, _, σ => ∃ v', Ix .ret p v' ∧ Has (SS v') σ
  | .exit id, _, σ => ∃ v', Ix (.exit id) p v' ∧ Has (SS v') σ
  | .goto g, _, σ => ∃ v', Ix (.goto g) p v' ∧ Has (SS v') σ
  | _, _, _ => False
/-- One round, as1 the code goes. -/
def RoundP (P : Program) (Λ : Amb) (N l : Nat) (pins : List Nat) (ps : List Nat) (assign body : Code) (t : T) : Prop :=
  ∀ (pre : List α) (x : α) (post : List α) (v : V), L = pre ++ x :: post → I pre v → ∀ w0 H0 B g0, vc ⟨P, Λ, some l, w0, H0, B, N, pins, g0⟩ assign (zipT ps (enc x) t) (SS v) (fun e t' σ' => match e with
    | .normal => ∀ w0 H0 B g0, vc ⟨P, Λ, some l, w0, H0, B, N, pins, g0⟩ body t' σ' (RPost SS I Ix (pre ++ [x]))
    | _ => False)

def rPre (s : List α × Option Code) (xs : List AV) : Prop := s.2 = none ∧ ∃ x post, L = s.1 ++ x :: post ∧ xs = enc x
def rStep (s : List α × Option Code) (xs : List AV) (b : Bool) (s' : List α × Option Code) : Prop :=
  s.2 = none ∧ ∃ x post, L = s.1 ++ x :: post ∧ xs = enc x ∧ ((b = true ∧ s' = (s.1 ++ [x], none)) ∨ (b = false ∧ ∃ c, s' = (s.1 ++ [x], some c)))

theorem round_run {P : Program} {Λ : Amb} {N l D : Nat} {outer : Bool} {fn : FuncId} {ps : Array Nat} {assign body : Code} {df : Nat} {pins : List Nat} {γe : Ids} {t : T} {tmps : Array Value} (hsz : tmps.size = N) (hps : ∀ p, p ∈ ps.toList → p < N) (hen : ∀ x, (enc x).length = ps.size)
    (hD : outer = true → D ≠ l) (hfl : flatT t = true) (hpn : ∀ i, i ∈ namesOf t → i ∈ pins) (hround : RoundP enc L SS I Ix P Λ N l pins ps.toList assign body t) {s : List α × Option Code} {xs : List AV} (hpre : rPre enc L s xs) (H : HF) (w : World) (O : Nat → Prop) (vs : List Value) (hΛ : Lam Λ w O)
    (hok : ∃ v γ, ROk SS I Ix l D outer (fun st pe => { state := st, pending := pe, fn := fn, tmps := tmps, params := ps, assign := assign, body := body, defers := df }) pins γe t tmps s O H w v γ) (hH : HOk H w) (hfree : ∀ b, O b → Free H b) (hl : vs.length = xs.length)
    (hr : ∀ (j : Nat) (a : AV) (u : Value), xs[j]? = some a → vs[j]? = some u → ∀ γ, Rep γ H a u) :
    CallV P (.func (.yield l) #[] #[]) vs w fun v w' => ∃ b s' H' O', v = .bool b ∧ rStep enc L s xs b s' ∧ (∃ v γ, ROk SS I Ix l D outer (fun st pe => { state := st, pending := pe, fn := fn, tmps := tmps, params := ps, assign := assign, body := body, defers := df }) pins γe t tmps s' O' H' w' v γ) ∧ Stp w H O w' H' O' := by
  obtain ⟨rc, hrc⟩ : ∃ rc : LoopState → Option Code → Loop, rc = fun st pe => { state := st, pending := pe, fn := fn, tmps := tmps, params := ps, assign := assign, body := body, defers := df } := ⟨_, rfl⟩
  rw [← hrc] at hok ⊢
  obtain ⟨v, γ, R⟩ := hok
  obtain ⟨p, o⟩ := s
  obtain ⟨h1, x, post, hL, rfl⟩ := hpre
  simp only at h1 hL; subst h1
  have hrec := R.rcd
  simp only at hrec
  have hinv : I p v := R.inv
  let B1 : Nat → Prop := fun b => O b ∧ b ≠ l ∧ (outer = true → b ≠ D)
  have hlw : l < w.heap.size := R.lt l R.ol
  have hy := run_yield (P := P) (args := vs.toArray) hrec (by rw [hrc]; simp [hl, hen x])
  simp only [hrc] at hy
  have hzip : (ps.zip vs.toArray).foldl (fun tmps x => match x with | (t, a) => tmps.setIfInBounds t a) tmps = (ps.toList.zip vs).foldl (fun tm p => tm.setIfInBounds p.1 p.2) tmps := by
    rw [← Array.foldl_toList]; simp
  obtain ⟨htm, hts⟩ := zip_ok (γ := γ) (H := H) ps.toList (enc x) vs t tmps R.tmp hsz hps hl (fun j a u ha hu => hr j a u ha hu γ)
  refine .inr ⟨l, fn, _, assign, body, rfl, hy, roundIn_of_wpIn trivial ?_⟩
  rw [hzip]
  generalize hT : (ps.toList.zip vs).foldl (fun tm p => tm.setIfInBounds p.1 p.2) tmps = tm1 at htm hts
  have hB1l : ¬ B1 l := fun h => h.2.1 rfl
  have hB1D : outer = true → ¬ B1 D := fun ho h => h.2.2 ho rfl
  have s0 : St ⟨P, Λ, some l, w, H, B1, N, pins, γ⟩ γ H (zipT ps.toList (enc x) t) (SS v) { tmps := tm1, defers := [] } w := by
    refine ⟨⟨hΛ.1, hΛ.2.1, fun b hb => hΛ.2.2 b hb.1⟩, fun l' e => ?_, ⟨[], rfl, List.nodup_nil, fun b h => by simp at h⟩, hts, fun i _ => rfl, htm, ?_⟩
    · cases e; exact ⟨⟨_, hrec⟩, hB1l⟩
    · exact ⟨Keeps.refl _ _, HLe.refl _, HNew.refl _ _ _, hH, R.ent, fun i e hi b hb => hfree b (R.blk i e b hi hb).1, fun i e hi b hb => .inr (R.blk i e b hi hb), R.apart⟩
  have hv := vc_sound _ _ _ _ (hround p x post v hL hinv w H B1 γ)
  refine wpIn_mono (hv γ H _ w s0) ?_
  rintro e a1 w1 ⟨γ1, H1, t1, σ1, s1, q1⟩
  cases e with
  | normal =>
    have hl1 : w1.heap[l]? = some (.loop (rc .ready none)) := (s1.mem.keep.block l hlw hB1l).trans hrec
    refine ⟨_, run_beginRound hl1 (by rw [hrc]), ?_⟩
    obtain ⟨bz, hbz⟩ : ∃ bz : Loop, bz = { rc .ready none with state := .busy } := ⟨_, rfl⟩
    rw [← hbz]
    have hl2 : (w1.putObj l (.loop bz)).heap[l]? = some (.loop bz) := World.putObj_heap_same (lt_of_heap hl1)
    have s2 : St ⟨P, Λ, some l, w.putObj l (.loop bz), H, B1, N, pins, γ⟩ γ1 H1 t1 σ1 a1 (w1.putObj l (.loop bz)) := by
      refine ⟨⟨Λ.st hΛ.1 fun k hk => World.putObj_heap_other (fun e => by have := hΛ.2.2 l R.ol; omega), by simpa using hΛ.2.1, fun b hb => hΛ.2.2 b hb.1⟩, fun l' e => ?_, ?_, s1.size, s1.pinned, s1.tmp, mem_loop s1.mem hl1 hlw hB1l⟩
      · cases e; exact ⟨⟨_, World.putObj_heap_same hlw⟩, hB1l⟩
      · obtain ⟨ms, hd, m1, m2⟩ := s1.defers
        refine ⟨ms, hd, m1, fun b hb => ?_⟩
        obtain ⟨h3, h4, h5⟩ := m2 b hb
        exact ⟨by rw [World.putObj_heap_other (fun e => by subst e; rw [hl1] at h3; cases h3)]; exact h3, by simpa using h4, h5⟩
    refine wpIn_mono (vc_sound _ _ _ _ (q1 _ _ _ _) γ1 H1 a1 _ s2) ?_
    rintro e a3 w3 ⟨γ3, H3, t3, σ3, s3, q3⟩
    have hl3 : w3.heap[l]? = some (.loop bz) := (s3.mem.keep.block l (by simpa using hlw) hB1l).trans (World.putObj_heap_same hlw)
    have fin : ∀ (jump : Option Code) (v' : V), (match jump with | none => I (p ++ [x]) v' | some c => Ix c (p ++ [x]) v') → Has (SS v') σ3 →
        ∃ u w', (Instr.endRound l jump).run P w3 = .ok u w' ∧ ∃ v, Ending.returned u = .returned v ∧ ∃ b s' H' O', v = .bool b ∧ rStep enc L (p, none) (enc x) b s' ∧ (∃ v γ, ROk SS I Ix l D outer rc pins γe t tmps s' O' H' w' v γ) ∧ Stp w H O w' H' O' := by
      intro jump v' hJ hHas
      have hrun := run_endRound (P := P) jump hl3
      have hrec' : ({ bz with state := if jump.isNone then .ready else .done, pending := jump } : Loop) = rc (if jump.isNone then .ready else .done) jump := by rw [hbz, hrc]
      rw [hrec'] at hrun
      have hwk := hHas.wk
      refine ⟨_, _, hrun, _, rfl, jump.isNone, (p ++ [x], jump), H3, fun b => (∃ i e, look i (SS v') = some e ∧ blk γ3 i e b) ∨ b = l ∨ (outer = true ∧ b = D), rfl, ⟨rfl, x, post, hL, rfl, ?_⟩, ⟨v', γ3, ?_⟩, ?_⟩
      · cases jump with
        | none => exact .inl ⟨rfl, rfl⟩
        | some c => exact .inr ⟨rfl, c, rfl⟩
      · have hbl : ∀ i e b, look i (SS v') = some e → blk γ3 i e b → b ≠ l ∧ (outer = true → b ≠ D) := fun i e b hi hb => by
          rcases s3.mem.fresh i e (hwk i e hi) b hb with h | h
          · simp only [World.putObj_size] at h
            exact ⟨by omega, fun ho => by have := R.lt D (R.od ho); omega⟩
          · exact ⟨h.2.1, h.2.2⟩
        have hne : ∀ ho : outer = true, D ≠ l := hD
        refine ⟨?_, fun i hi => (s3.pinned i hi).trans (R.pin i hi), fun i a hi => ?_, ?_, fun ho => ?_, fun b hb => ?_, .inr (.inl rfl), fun ho => .inr (.inr ⟨ho, rfl⟩), fun i e hi => (s3.mem.ent i e (hwk i e hi)).later (HLe.refl _) (by simp) fun b hb => World.putObj_heap_other (hbl i e b hi hb).1, fun i e b hi hb => ⟨.inl ⟨i, e, hi, hb⟩, hbl i e b hi hb⟩, fun i e j e' b hi hj => s3.mem.apart i e j e' b (hwk i e hi) (hwk j e' hj)⟩
        · cases jump <;> exact hJ
        · obtain ⟨u, hu, r⟩ := R.tmp i a hi
          refine ⟨u, hu, (r.mono s3.mem.hle).agree fun j hj => ?_⟩
          exact (s3.pinned j (hpn j (names_t hfl hi hj))).symm
        · rw [World.putObj_heap_same (lt_of_heap hl3)]
          cases jump <;> rfl
        · rw [World.putObj_heap_other (hne ho), s3.mem.keep.block D (by simpa using R.lt D (R.od ho)) (hB1D ho), World.putObj_heap_other (hne ho)]
          exact R.dfr ho
        · have hs3 : w.heap.size ≤ w3.heap.size := by have := s3.mem.keep.size; simpa using this
          rcases hb with ⟨i, e, hi, hb⟩ | rfl | ⟨ho, rfl⟩
          · simpa using (s3.mem.ent i e (hwk i e hi)).lt hb
          · simpa using lt_of_heap hl3
          · have := R.lt b (R.od ho); simp; omega
      · have hw0 : (w.putObj l (.loop bz)).heap.size = w.heap.size := by simp
        have hnw := s3.mem.hnew
        simp only [hw0] at hnw
        refine ⟨⟨s3.mem.keep.os, s3.mem.keep.tape, s3.mem.keep.output, by have := s3.mem.keep.size; simpa using this, fun k hk hko => ?_⟩, s3.mem.hle, ⟨fun b o v hv => ?_, fun b x hv => ?_⟩, hok_loop s3.mem.hok hl3, fun b hb => ?_, fun b hb => ?_⟩
        · have hkl : k ≠ l := fun e => hko (e ▸ R.ol)
          rw [World.putObj_heap_other hkl, s3.mem.keep.block k (by simpa using hk) (fun h => hko h.1), World.putObj_heap_other hkl]
        · rcases hnw.c b o v hv with h | h | h
          · exact .inl h
          · exact .inr (.inl h)
          · exact .inr (.inr h.1)
        · rcases hnw.m b x hv with h | h | h
          · exact .inl h
          · exact .inr (.inl h)
          · exact .inr (.inr h.1)
        · rcases hb with ⟨i, e, hi, hb⟩ | rfl | ⟨ho, rfl⟩
          · rcases s3.mem.fresh i e (hwk i e hi) b hb with h | h
            · exact .inr (by simpa using h)
            · exact .inl h.1
          · exact .inl R.ol
          · exact .inl (R.od ho)
        · rcases hb with ⟨i, e, hi, hb⟩ | rfl | ⟨ho, rfl⟩
          · exact s3.mem.free i e (hwk i e hi) b hb
          · exact (hfree b R.ol).later hnw hlw hB1l
          · exact (hfree b (R.od ho)).later hnw (R.lt b (R.od ho)) (hB1D ho)
    cases e with
    | normal => obtain ⟨v', hi, hh⟩ := q3; exact fin none v' hi hh
    | ret => obtain ⟨v', hi, hh⟩ := q3; exact fin (some .ret) v' hi hh
    | exit id => obtain ⟨v', hi, hh⟩ := q3; exact fin (some (.exit id)) v' hi hh
    | goto g => obtain ⟨v', hi, hh⟩ := q3; exact fin (some (.goto g)) v' hi hh
    | panic ch => exact q3.elim
    | outgrown => exact q3.elim
  | exit id => exact q1.elim
  | goto g => exact q1.elim
  | ret => exact q1.elim
  | panic ch => exact q1.elim
  | outgrown => exact q1.elim
end
end Go.Gv
end
section
namespace Go.Gv
open Go.RowKit
theorem Feeds.inv {ρ : Res} {s s' : ρ.S} {M : List (List AV)} {b : Bool} (h : Feeds ρ s M b s') : (M = [] ∧ b = true ∧ s' = s) ∨ (∃ x L s1, M = x :: L ∧ ρ.step s x true s1 ∧ Feeds ρ s1 L b s') ∨ (∃ x L, M = x :: L ∧ b = false ∧ ρ.step s x false s') := by
  cases h with
  | nil => exact .inl ⟨rfl, rfl, rfl⟩
  | go h k => exact .inr (.inl ⟨_, _, _, rfl, h, k⟩)
  | stop h => exact .inr (.inr ⟨_, _, rfl, rfl, h⟩)
section
variable {α V : Type} (enc : α → List AV) (L : List α) (SS : V → Sg) (I : List α → V → Prop) (Ix : Code → List α → V → Prop)
/-- The loop as a thing with a memory of its own. -/
def rangeRes {P : Program} {Λ : Amb} {N l D : Nat} {outer : Bool} {fn : FuncId} {ps : Array Nat} {assign body : Code} {df : Nat} {pins : List Nat} {γe : Ids} {t : T} {tmps : Array Value} (hsz : tmps.size = N) (hps : ∀ p, p ∈ ps.toList → p < N) (hen : ∀ x, (enc x).length = ps.size)
    (hD : outer = true → D ≠ l) (hfl : flatT t = true) (hpn : ∀ i, i ∈ namesOf t → i ∈ pins) (hround : RoundP enc L SS I Ix P Λ N l pins ps.toList assign body t) : Res where
  S := List α × Option Code
  P := P
  Λ := Λ
  fv := .func (.yield l) #[] #[]
  ok s O H w := ∃ v γ, ROk SS I Ix l D outer (fun st pe => { state := st, pending := pe, fn := fn, tmps := tmps, params := ps, assign := assign, body := body, defers := df }) pins γe t tmps s O H w v γ
  lt := fun ⟨_, _, h⟩ => h.lt
  later := fun ⟨v, γ, h⟩ h1 h2 h3 => ⟨v, γ, h.later SS I Ix h1 h2 h3⟩
  pre := rPre enc L
  step := rStep enc L
  run := fun hp H w O vs hΛ hok hH hf hl hr => round_run enc L SS I Ix hsz hps hen hD hfl hpn hround hp H w O vs hΛ hok hH hf hl hr

theorem can_range {P : Program} {Λ : Amb} {N l D : Nat} {outer : Bool} {fn : FuncId} {ps : Array Nat} {assign body : Code} {df : Nat} {pins : List Nat} {γe : Ids} {t : T} {tmps : Array Value} (hsz : tmps.size = N) (hps : ∀ p, p ∈ ps.toList → p < N) (hen : ∀ x, (enc x).length = ps.size)
    (hD : outer = true → D ≠ l) (hfl : flatT t = true) (hpn : ∀ i, i ∈ namesOf t → i ∈ pins) (hround : RoundP enc L SS I Ix P Λ N l pins ps.toList assign body t) : ∀ (rest p : List α), L = p ++ rest →
    Can (rangeRes enc L SS I Ix (D := D) (outer := outer) (fn := fn) (df := df) (γe := γe) hsz hps hen hD hfl hpn hround) (p, none) (rest.map enc)
  | [], p, _ => trivial
  | x :: rest, p, h => ⟨⟨rfl, x, rest, h, rfl⟩, fun s' hs => by
      obtain ⟨_, x', post, h1, _, h2⟩ := hs
      rcases h2 with ⟨_, rfl⟩ | ⟨h2, _⟩
      · have : x' :: post = x :: rest := List.append_cancel_left (h1.symm.trans h)
        cases this
        exact can_range hsz hps hen hD hfl hpn hround rest (p ++ [x]) (by rw [h, List.append_assoc]; rfl)
      · cases h2⟩
theorem feeds_range {P : Program} {Λ : Amb} {N l D : Nat} {outer : Bool} {fn : FuncId} {ps : Array Nat} {assign body : Code} {df : Nat} {pins : List Nat} {γe : Ids} {t : T} {tmps : Array Value} (hsz : tmps.size = N) (hps : ∀ p, p ∈ ps.toList → p < N) (hen : ∀ x, (enc x).length = ps.size)
    (hD : outer = true → D ≠ l) (hfl : flatT t = true) (hpn : ∀ i, i ∈ namesOf t → i ∈ pins) (hround : RoundP enc L SS I Ix P Λ N l pins ps.toList assign body t) : ∀ (rest p : List α) (b : Bool) (s' : List α × Option Code), L = p ++ rest →
    Feeds (rangeRes enc L SS I Ix (D := D) (outer := outer) (fn := fn) (df := df) (γe := γe) hsz hps hen hD hfl hpn hround) (p, none) (rest.map enc) b s' → s' = (L, none) ∨ ∃ q c, s' = (q, some c)
  | [], p, b, s', h, k => by
    rw [List.append_nil] at h
    rcases k.inv with ⟨_, _, e⟩ | ⟨_, _, _, e, _⟩ | ⟨_, _, e, _⟩
    · exact .inl (by rw [h]; exact e)
    · cases e
    · cases e
  | x :: rest, p, b, s', h, k => by
    rcases k.inv with ⟨e, _⟩ | ⟨y, M, s1, e, hs, k⟩ | ⟨y, M, e, _, hs⟩
    · cases e
    · cases e
      obtain ⟨_, x', post, h1, _, h2⟩ := hs
      rcases h2 with ⟨_, rfl⟩ | ⟨h2, _⟩
      · have : x' :: post = x :: rest := List.append_cancel_left (h1.symm.trans h)
        cases this
        exact feeds_range hsz hps hen hD hfl hpn hround rest (p ++ [x]) b s' (by rw [h, List.append_assoc]; rfl) k
      · cases h2
    · cases e
      obtain ⟨_, x', post, h1, _, h2⟩ := hs
      rcases h2 with ⟨h2, _⟩ | ⟨_, c, e⟩
      · cases h2
      · exact .inr ⟨_, c, e⟩

/-- What the loop leaves: the memory that was lent to it, told anew. -/
theorem range_fin {X : Cx} {t : T} {σ : Sg} {γ γ' γ3 : Ids} {H H' : HF} {a : Act} {w W1 w3 : World} {l D : Nat} {outer : Bool} {rc : LoopState → Option Code → Loop} {pins : List Nat} {s' : List α × Option Code} {v0 v' : V} {ρ : Res} {st : ρ.S} {mark : List Deferred} {O0 : Nat → Prop}
    (s : St X γ H t σ a w) (hw : Wk (SS v0) σ) (hpin : ∀ i, i ∈ X.pin → i ∈ pins)
    (hO : ∀ b, O0 b → (∃ i e, look i (SS v0) = some e ∧ Gv.blk γ i e b) ∨ b = l ∨ (outer = true ∧ b = D))
    (hl : w.heap.size ≤ l) (hD : outer = true → w.heap.size ≤ D ∧ D ≠ l) (hmark : mark = if outer = true then [{ target := .collected D, args := #[] }] else [])
    (k1 : Keeps w (fun _ => False) W1) (m : Mem W1 H O0 γ' H' [(0, .res ρ st)] w3)
    (R : ROk SS I Ix l D outer rc pins γ t a.tmps s' (γ' 0).o H' w3 v' γ3) (r' : Loop) :
    St X γ3 H' t (SS v') { a with defers := mark ++ a.defers } (w3.putObj l (.loop r')) := by
  have hO' : ∀ b, (γ' 0).o b → W1.heap.size ≤ b ∨ O0 b := fun b hb => m.fresh 0 _ rfl b hb
  have hz := k1.size
  have old : ∀ b, O0 b → b < w.heap.size → ∃ i e, look i σ = some e ∧ Gv.blk γ i e b := fun b hb hlt => by
    rcases hO b hb with ⟨i, e, hi, h⟩ | rfl | ⟨ho, rfl⟩
    · exact ⟨i, e, hw i e hi, h⟩
    · omega
    · have := (hD ho).1; omega
  have xw : ∀ b, O0 b → X.w0.heap.size ≤ b ∨ X.B b := fun b hb => by
    by_cases hlt : b < w.heap.size
    · obtain ⟨i, e, hi, h⟩ := old b hb hlt
      exact s.mem.fresh i e hi b h
    · have := s.mem.keep.size; exact .inl (by omega)
  have fr : ∀ b, (γ' 0).o b → X.w0.heap.size ≤ b ∨ X.B b := fun b hb => by
    rcases hO' b hb with h | h
    · have := s.mem.keep.size; exact .inl (by omega)
    · exact xw b h
  have hrec := R.rcd
  have hlX : X.w0.heap.size ≤ l := Nat.le_trans s.mem.keep.size hl
  refine ⟨s.lam, s.round, ?_, s.size, fun i hi => (R.pin i (hpin i hi)).trans (s.pinned i hi), R.tmp, ?_⟩
  · obtain ⟨ms, hd, m1, m2⟩ := s.defers
    have oldm : ∀ b, b ∈ ms → (w3.putObj l (.loop r')).heap[b]? = some (.deferred (some [])) ∧ X.w0.heap.size ≤ b ∧ ¬ blks γ3 (SS v') b := fun b hb => by
      obtain ⟨h3, h4, h5⟩ := m2 b hb
      have hlt := lt_of_heap h3
      have hno : ¬ O0 b := fun h => by obtain ⟨i, e, hi, hbb⟩ := old b h hlt; exact h5 ⟨i, e, hi, hbb⟩
      refine ⟨?_, h4, fun ⟨i, e, hi, hbb⟩ => ?_⟩
      · rw [World.putObj_heap_other (by omega), m.keep.block b (by omega) hno, k1.block b hlt (fun h => h)]; exact h3
      · rcases hO' b (R.blk i e b hi hbb).1 with h | h
        · omega
        · exact hno h
    cases ho : outer with
    | false =>
      rw [ho] at hmark
      refine ⟨ms, by simp only [hmark, hd]; rfl, m1, oldm⟩
    | true =>
      rw [ho] at hmark
      refine ⟨D :: ms, by simp only [hmark, hd]; rfl, List.nodup_cons.2 ⟨fun hm => ?_, m1⟩, fun b hb => ?_⟩
      · have := lt_of_heap (m2 D hm).1; have := (hD ho).1; omega
      · rcases List.mem_cons.1 hb with rfl | hb
        · refine ⟨by rw [World.putObj_heap_other (hD ho).2]; exact R.dfr ho, Nat.le_trans s.mem.keep.size (hD ho).1, fun ⟨i, e, hi, hbb⟩ => (R.blk i e b hi hbb).2.2 ho rfl⟩
        · exact oldm b hb
  · refine ⟨⟨m.keep.os.trans (k1.os.trans s.mem.keep.os), m.keep.tape.trans (k1.tape.trans s.mem.keep.tape), m.keep.output.trans (k1.output.trans s.mem.keep.output), ?_, fun k hk hkB => ?_⟩, s.mem.hle.trans m.hle, ⟨fun b o v hv => ?_, fun b y hv => ?_⟩, hok_loop m.hok hrec,
      fun i e hi => (R.ent i e hi).later (HLe.refl _) (by simp) fun b hb => World.putObj_heap_other (R.blk i e b hi hb).2.1, fun i e hi b hb => m.free 0 _ rfl b (R.blk i e b hi hb).1, fun i e hi b hb => fr b (R.blk i e b hi hb).1, R.apart⟩
    · have h1 := s.mem.keep.size; have h2 := m.keep.size; simp; omega
    · have h1 := s.mem.keep.size
      have hno : ¬ O0 k := fun h => (xw k h).elim (fun h => by omega) hkB
      rw [World.putObj_heap_other (by omega), m.keep.block k (by omega) hno, k1.block k (by omega) (fun h => h), s.mem.keep.block k hk hkB]
    · rcases m.hnew.c b o v hv with h | h | h
      · exact s.mem.hnew.c b o v h
      · have h1 := s.mem.keep.size; exact .inr (.inl (by omega))
      · exact .inr (xw b h)
    · rcases m.hnew.m b y hv with h | h | h
      · exact s.mem.hnew.m b y h
      · have h1 := s.mem.keep.size; exact .inr (.inl (by omega))
      · exact .inr (xw b h)

/-- The loop begins. -/
theorem range_begin {X : Cx} {t : T} {σ : Sg} {γ : Ids} {H : HF} {a : Act} {w W1 : World} {l D : Nat} {outer : Bool} {rc : LoopState → Option Code → Loop} {pins : List Nat} {v0 : V}
    (s : St X γ H t σ a w) (hw : Wk (SS v0) σ) (hI : I [] v0) (hl : w.heap.size ≤ l) (hD : outer = true → w.heap.size ≤ D ∧ D ≠ l)
    (k1 : Keeps w (fun _ => False) W1) (hrec : W1.heap[l]? = some (.loop (rc .ready none))) (hdf : outer = true → W1.heap[D]? = some (.deferred (some []))) :
    ROk SS I Ix l D outer rc pins γ t a.tmps ([], none) (fun b => (∃ i e, look i (SS v0) = some e ∧ Gv.blk γ i e b) ∨ b = l ∨ (outer = true ∧ b = D)) H W1 v0 γ := by
  have hz := k1.size
  have hlt : ∀ i e b, look i (SS v0) = some e → Gv.blk γ i e b → b < w.heap.size := fun i e b hi hb => (s.mem.ent i e (hw i e hi)).lt hb
  refine ⟨hI, fun _ _ => rfl, s.tmp, hrec, hdf, fun b hb => ?_, .inr (.inl rfl), fun ho => .inr (.inr ⟨ho, rfl⟩), fun i e hi => (s.mem.ent i e (hw i e hi)).later (HLe.refl _) hz fun b hb => k1.block b (hlt i e b hi hb) (fun h => h),
    fun i e b hi hb => ⟨.inl ⟨i, e, hi, hb⟩, ?_, fun ho => ?_⟩, fun i e j e' b hi hj => s.mem.apart i e j e' b (hw i e hi) (hw j e' hj)⟩
  · rcases hb with ⟨i, e, hi, hb⟩ | rfl | ⟨ho, rfl⟩
    · have := hlt i e b hi hb; omega
    · exact lt_of_heap hrec
    · exact lt_of_heap (hdf ho)
  · have := hlt i e b hi hb; omega
  · have := hlt i e b hi hb; have := (hD ho).1; omega
end
end Go.Gv
end
section
namespace Go.Gv
open Go.RowKit
theorem keeps_alloc (w : World) (o : Obj) : Keeps w (fun _ => False) (w.alloc o) := ⟨rfl, rfl, rfl, by simp, fun k hk _ => by
  show (w.heap.push o)[k]? = _
  rw [Array.getElem?_push, if_neg (by omega)]⟩
theorem hok_keeps {H : HF} {w w' : World} (h : HOk H w) (k : Keeps w (fun _ => False) w') : HOk H w' := ⟨fun b o v hv => by
    have h1 := h.c b o v hv
    have hlt := lt_of_cell h1
    simp only [World.cell?] at h1 ⊢
    rw [k.block b hlt (fun x => x)]; exact h1, fun b es c hv => by
    have h1 := h.m b es c hv
    exact (k.block b (lt_of_heap h1) (fun x => x)).trans h1⟩
theorem free_new {H : HF} {w : World} (h : HOk H w) {b : Nat} (hb : w.heap.size ≤ b) : Free H b := by
  refine ⟨fun o => ?_, ?_⟩
  · cases hx : H.c b o with
    | none => rfl
    | some v => have := lt_of_cell (h.c b o v hx); omega
  · cases hx : H.m b with
    | none => rfl
    | some x => obtain ⟨es, c⟩ := x; have := lt_of_heap (h.m b es c hx); omega
section
variable {α V : Type} (enc : α → List AV) (L : List α) (SS : V → Sg) (I : List α → V → Prop) (Ix : Code → List α → V → Prop)
theorem WJ.rangeF {X : Cx} {g : Operand} {ps : Array Nat} {assign body : Code} {t : T} {σ : Sg} {Q : Qt} (v0 : V) {gf : FuncId} {caps : List AV} {av : AV} (hg : ge t g = some av) (hf : FnIs av gf caps) (hcap : caps.all AV.open = true) (hok : callOk X.P gf)
    (hit : Iter X.Λ X.P gf caps (L.map enc)) (hfl : flatT t = true) (hps : ps.toList.all (fun p => Nat.blt p X.N) = true) (hen : ∀ x, (enc x).length = ps.size) (hs : Wk (SS v0) σ) (h0 : I [] v0)
    (round : ∀ l, RoundP enc L SS I Ix X.P X.Λ X.N l (X.pin ++ namesOf t) ps.toList assign body t)
    (done : ∀ v, I L v → Q .normal t (SS v)) (stop : ∀ c p v, Ix c p v → vc X c t (SS v) Q) : WJ X (.rangeFunc g ps assign body) t σ Q := by
  intro γ H a w s
  refine wpIn_rangeFunc ?_
  intro fn hfn
  obtain ⟨us, hgv, hul, hur⟩ := hf.rep (ge_sound s.tmp hg)
  have hps' : ∀ p, p ∈ ps.toList → p < X.N := fun p hp => by have := List.all_eq_true.1 hps p hp; simpa using this
  have key : ∀ (l D : Nat) (outer : Bool) (df : Nat) (mark : List Deferred) (W1 : World), (Instr.enterLoop fn a.tmps ps assign body (Fr X.ro).round).run X.P w = .ok (l, mark) W1 → w.heap.size ≤ l → (outer = true → w.heap.size ≤ D ∧ D ≠ l) → Keeps w (fun _ => False) W1 →
      W1.heap[l]? = some (.loop { state := .ready, pending := none, fn := fn, tmps := a.tmps, params := ps, assign := assign, body := body, defers := df }) → (outer = true → W1.heap[D]? = some (.deferred (some []))) → mark = (if outer = true then [{ target := .collected D, args := #[] }] else []) →
      ∃ (l : Nat) (mark : List Deferred) (w₁ : World) (d : Deferred) (w₁' : World) (f : FuncId) (args : Array Value) (w₂ : World),
      (Instr.enterLoop fn a.tmps ps assign body (Fr X.ro).round).run X.P w = .ok (l, mark) w₁ ∧ (resolve a.eval (rangeCall g l) 0).run X.P w₁ = .ok d w₁' ∧ (∀ f', Target.leads X.P w₁' d.target d.args = some f' → (Fr X.ro).fn f') ∧
      (invoke d.target d.args).run X.P w₁' = .ok (.enter f args) w₂ ∧ ((Fr X.ro).depth.isSome = true → 1 ≤ 0) ∧ CallsIn (Fr X.ro) (0 - 1) X.P f args w₂ (rangePost (Fr X.ro) 0 X.P l (Post X Q) { a with defers := mark ++ a.defers }) := by
    intro l D outer df mark W1 he hl hD k1 hrec hdf hmark
    obtain ⟨rc, hrc⟩ : ∃ rc : LoopState → Option Code → Loop, rc = fun st pe => { state := st, pending := pe, fn := fn, tmps := a.tmps, params := ps, assign := assign, body := body, defers := df } := ⟨_, rfl⟩
    have hDl : outer = true → D ≠ l := fun ho => (hD ho).2
    have hpn : ∀ i, i ∈ namesOf t → i ∈ X.pin ++ namesOf t := fun i hi => List.mem_append.2 (.inr hi)
    let O0 : Nat → Prop := fun b => (∃ i e, look i (SS v0) = some e ∧ Gv.blk γ i e b) ∨ b = l ∨ (outer = true ∧ b = D)
    let ρ : Res := rangeRes enc L SS I Ix (D := D) (outer := outer) (fn := fn) (df := df) (γe := γ) (tmps := a.tmps) s.size hps' hen hDl hfl hpn (round l)
    have hR0 := range_begin SS I Ix (rc := rc) (pins := X.pin ++ namesOf t) s hs h0 hl hD k1 (by rw [hrc]; exact hrec) hdf
    have hcan : Can ρ ([], none) (L.map enc) := can_range enc L SS I Ix s.size hps' hen hDl hfl hpn (round l) L [] rfl
    have hct := hit ρ rfl rfl ([], none) hcan
    let γc : Ids := upd γ 0 ⟨0, 0, O0⟩
    have hblk : blks γc [(0, .res ρ ([], none))] = O0 := by
      funext b
      apply propext
      refine ⟨fun ⟨i, e, hi, hb⟩ => ?_, fun hb => ⟨0, _, rfl, ?_⟩⟩
      · rw [look_cons] at hi
        split at hi
        · next e' =>
          subst e'
          simp only [Option.some.injEq] at hi; subst hi
          simp only [blk, γc, upd_same] at hb; exact hb
        · simp [look] at hi
      · simp only [blk, γc, upd_same]; exact hb
    have hz := k1.size
    have hO0 : ∀ b, O0 b → (∃ i e, look i σ = some e ∧ Gv.blk γ i e b) ∨ w.heap.size ≤ b := fun b hb => by
      rcases hb with ⟨i, e, hi, h⟩ | rfl | ⟨ho, rfl⟩
      · exact .inl ⟨i, e, hs i e hi, h⟩
      · exact .inr hl
      · exact .inr (hD ho).1
    have hm : Mem W1 H (blks γc [(0, .res ρ ([], none))]) γc H [(0, .res ρ ([], none))] W1 := by
      rw [hblk]
      have one : ∀ j f, look j ([(0, Ent.res ρ ([], none))] : Sg) = some f → j = 0 ∧ f = .res ρ ([], none) := fun j f hj => by
        rw [look_cons] at hj
        split at hj
        · next e' => exact ⟨e', by simpa using hj.symm⟩
        · simp [look] at hj
      have hH1 := hok_keeps s.mem.hok k1
      refine ⟨Keeps.refl _ _, HLe.refl _, HNew.refl _ _ _, hH1, fun i e hi => ?_, fun i e hi b hb => ?_, fun i e hi b hb => ?_, fun i e j e' b hi hj hb hb' => ?_⟩
      · obtain ⟨rfl, rfl⟩ := one i e hi
        show ∃ v γ', ROk SS I Ix l D outer _ _ γ t a.tmps ([], none) (γc 0).o H W1 v γ'
        refine ⟨v0, γ, ?_⟩
        rw [← hrc]
        simp only [γc, upd_same]
        exact hR0
      · obtain ⟨rfl, rfl⟩ := one i e hi
        simp only [blk, γc, upd_same] at hb
        rcases hO0 b hb with ⟨i, e, hi, h⟩ | h
        · exact s.mem.free i e hi b h
        · exact free_new s.mem.hok h
      · obtain ⟨rfl, rfl⟩ := one i e hi
        simp only [blk, γc, upd_same] at hb
        exact .inr hb
      · obtain ⟨rfl, _⟩ := one i e hi; obtain ⟨rfl, _⟩ := one j e' hj; rfl
    have hlam : Lam X.Λ W1 (blks γc [(0, .res ρ ([], none))]) := by
      rw [hblk]
      have h1 := s.lam.keep s.mem.keep (C := fun b => ∃ i e, look i σ = some e ∧ Gv.blk γ i e b) fun b ⟨i, e, hi, hb⟩ => (s.mem.fresh i e hi b hb).elim (fun h => Nat.le_trans s.lam.2.1 h) (s.lam.2.2 b)
      refine ⟨X.Λ.st h1.1 fun k hk => k1.block k (Nat.lt_of_lt_of_le hk h1.2.1) (fun h => h), Nat.le_trans h1.2.1 hz, fun b hb => ?_⟩
      rcases hO0 b hb with h | h
      · exact h1.2.2 b h
      · exact Nat.le_trans h1.2.1 h
    have hcall := hct X.ro γc H W1 (.func (.yield l) #[] #[] :: us) hlam hm (by simp [hul]) (fun j x u hx hu => by
      cases j with
      | zero => simp at hx hu; subst hx; subst hu; exact .d _ _ (.v _ rfl)
      | succ j => exact (hur j x u (by simpa using hx) (by simpa using hu)).free (List.all_eq_true.1 hcap x (mem_of_get (by simpa using hx))))
    refine ⟨l, mark, W1, { target := .fn (.func gf) us.toArray, args := #[.func (.yield l) #[] #[]] }, W1, gf, #[.func (.yield l) #[] #[]] ++ us.toArray, W1, he, ?_, fun _ _ => trivial, ?_, fun h => by simp [Fr] at h, ?_⟩
    · simp only [resolve, hgv]
      simp [Deferred.ofValue, Act.eval]
    · have := hok (#[.func (.yield l) #[] #[]] ++ us.toArray) W1
      simpa [invoke] using this
    · have hargs : (.func (.yield l) #[] #[] :: us : List Value).toArray = #[.func (.yield l) #[] #[]] ++ us.toArray := Array.toList_inj.1 (by simp)
      rw [hargs] at hcall
      refine hcall.mono ?_
      rintro e w3 ⟨vr, r, σ', γ', H', rfl, ⟨b, s', hfeed, rfl⟩, _, _, _, hm3⟩
      rw [hblk] at hm3
      obtain ⟨v', γ3, R⟩ : ∃ v' γ3, ROk SS I Ix l D outer (fun st pe => { state := st, pending := pe, fn := fn, tmps := a.tmps, params := ps, assign := assign, body := body, defers := df }) (X.pin ++ namesOf t) γ t a.tmps s' (γ' 0).o H' w3 v' γ3 := hm3.ent 0 _ rfl
      rw [← hrc] at R
      have hrec3 := R.rcd
      have hend := run_endLoop (P := X.P) hrec3 (by rw [hrc]; cases s'.2 <;> simp)
      have hst := range_fin (X := X) SS I Ix (W1 := W1) (mark := mark) (O0 := O0) s hs (fun i hi => List.mem_append.2 (.inl hi)) (fun b hb => hb) hl hD hmark k1 hm3 R
      refine ⟨_, _, hend, ?_⟩
      rcases feeds_range enc L SS I Ix s.size hps' hen hDl hfl hpn (round l) L [] b s' rfl hfeed with e | ⟨q, c, e⟩
      · subst e
        have hinv : I L v' := R.inv
        have : (rc .ready none).pending = none := by rw [hrc]
        simp only [this]
        exact ⟨γ3, H', t, SS v', hst _, done v' hinv⟩
      · subst e
        have hinv : Ix c q v' := R.inv
        have : (rc .done (some c)).pending = some c := by rw [hrc]
        simp only [this]
        exact vc_sound _ _ _ _ (stop c q v' hinv) γ3 H' _ _ (hst _)
  cases hro : X.ro with
  | none =>
    have hr : (Fr X.ro).round = none := by rw [hro]; rfl
    refine hro ▸ key (w.heap.size + 1) w.heap.size true w.heap.size [{ target := .collected w.heap.size, args := #[] }] ((w.alloc (.deferred (some []))).alloc (.loop { state := .ready, pending := none, fn := fn, tmps := a.tmps, params := ps, assign := assign, body := body, defers := w.heap.size })) ?_ (by omega) (fun _ => ⟨Nat.le_refl _, by omega⟩) ?_ ?_ (fun _ => ?_) rfl
    · rw [hr]; exact run_enterLoop_outer _ _ _ _ _
    · exact (keeps_alloc w _).trans (keeps_alloc _ _) (fun b h => h.elim)
    · have := World.alloc_heap_new (w.alloc (.deferred (some []))) (.loop { state := .ready, pending := none, fn := fn, tmps := a.tmps, params := ps, assign := assign, body := body, defers := w.heap.size })
      rwa [World.size_alloc] at this
    · rw [(keeps_alloc _ _).block w.heap.size (by simp) (fun h => h)]; exact World.alloc_heap_new w _
  | some l0 =>
    have hr : (Fr X.ro).round = some l0 := by rw [hro]; rfl
    obtain ⟨⟨r0, h1⟩, h2⟩ := s.round l0 hro
    have h3 := (s.mem.keep.block l0 (lt_of_heap h1) h2).trans h1
    refine hro ▸ key w.heap.size 0 false r0.defers [] (w.alloc (.loop { state := .ready, pending := none, fn := fn, tmps := a.tmps, params := ps, assign := assign, body := body, defers := r0.defers })) ?_ (Nat.le_refl _) (fun h => by cases h) (keeps_alloc w _) (World.alloc_heap_new w _) (fun h => by cases h) rfl
    rw [hr]; exact run_enterLoop_inner h3 _ _ _ _ _
end
end Go.Gv
end
section
namespace Go.Gv
open Go.RowKit
/-- A nil slice, as data. -/
theorem SJ.nilD {X : Cx} {t : T} {σ : Sg} (j k : Nat) (hj : look j t = some (.d (.v (.slice none 0 0)))) : SJ X t σ ((j, .d (.sl k [])) :: t) σ :=
  SJ.view j hj fun γ H u r => by
    obtain rfl := rep_v r
    exact .d _ _ (.sl k [] none 0 0 0 (fun _ _ => undef) (fun _ h => by simp at h) (Nat.le_refl _) (by simp) (fun h => by simp at h) (fun _ _ h => by simp at h) (fun _ _ _ _ h => by simp at h))
theorem SJ.fullD {X : Cx} {t : T} {σ : Sg} (j : Nat) {k : Nat} {xs : List (List D)} (hj : look j t = some (.full k xs)) : SJ X t σ ((j, .d (.sl k xs)) :: t) σ :=
  SJ.view j hj fun γ H u r => by
    cases r with
    | full _ _ A h => exact .d _ _ h
theorem rep_tup_set {γ : Ids} {H : HF} {vs : List AV} {u : Value} {j : Nat} {a a' : AV} (r : Rep γ H (.tup vs) u) (hj : vs[j]? = some a) (h : ∀ u, Rep γ H a u → Rep γ H a' u) : Rep γ H (.tup (vs.set j a')) u := by
  cases r with
  | tup _ us hl hr =>
    refine .tup _ us (by simp [hl]) fun l b v hb hv => ?_
    rw [List.getElem?_set] at hb
    by_cases e : j = l
    · subst e
      rw [if_pos rfl] at hb
      split at hb
      · cases hb; exact h v (hr j a v hj hv)
      · cases hb
    · rw [if_neg e] at hb; exact hr l b v hb hv
theorem rep_agg_set {γ : Ids} {H : HF} {vs : List AV} {u : Value} {j : Nat} {a a' : AV} (r : Rep γ H (.agg vs) u) (hj : vs[j]? = some a) (h : ∀ u, Rep γ H a u → Rep γ H a' u) : Rep γ H (.agg (vs.set j a')) u := by
  cases r with
  | agg _ us hl hr =>
    refine .agg _ us (by simp [hl]) fun l b v hb hv => ?_
    rw [List.getElem?_set] at hb
    by_cases e : j = l
    · subst e
      rw [if_pos rfl] at hb
      split at hb
      · cases hb; exact h v (hr j a v hj hv)
      · cases hb
    · rw [if_neg e] at hb; exact hr l b v hb hv
theorem arr_pub {γ : Ids} {H : HF} {i k n : Nat} {xs : List (List D)} (hp : PubOk γ H i (.a k xs)) (hn : n ≤ xs.length) (hm : n ≤ 9223372036854775807) {u : Value} (r : Rep γ H (.arr i k n) u) : Rep γ H (.d (.sl k (xs.take n))) u := by
  cases r with
  | arr _ _ _ A h1 hA => exact .d _ _ (hp n A hn h1 hA hm)
/-- A row among results is given to all. -/
theorem FinP.pubTup {X : Cx} {σ : Sg} {vs : List AV} {Q : AV → Sg → Prop} (i j : Nat) {k n : Nat} {xs : List (List D)} (hi : look i σ = some (.arr k xs)) (hj : vs[j]? = some (.arr i k n)) (hn : n ≤ xs.length) (hm : n ≤ 9223372036854775807)
    (kk : FinP X ((i, .gone) :: σ) (.tup (vs.set j (.d (.sl k (xs.take n))))) Q) : FinP X σ (.tup vs) Q :=
  let ⟨σ', r', h1, hc, hq⟩ := kk
  ⟨σ', r', .pub i hi rfl (fun _ _ _ ok rr => rep_tup_set rr hj fun _ => arr_pub ok hn hm) (by rw [subS_a]; exact h1), hc, hq⟩
/-- A result in another view. -/
theorem FinP.viewTup {X : Cx} {σ : Sg} {vs : List AV} {Q : AV → Sg → Prop} (j : Nat) {a a' : AV} (hj : vs[j]? = some a) (h : ∀ γ H u, Rep γ H a u → Rep γ H a' u) (kk : FinP X σ (.tup (vs.set j a')) Q) : FinP X σ (.tup vs) Q :=
  FinP.view (fun γ H _ rr => rep_tup_set rr hj (h γ H)) kk
theorem nil_sl {γ : Ids} {H : HF} (k : Nat) {u : Value} (r : Rep γ H (.d (.v (.slice none 0 0))) u) : Rep γ H (.d (.sl k [])) u := by
  obtain rfl := rep_v r
  exact .d _ _ (.sl k [] none 0 0 0 (fun _ _ => undef) (fun _ h => by simp at h) (Nat.le_refl _) (by simp) (fun h => by simp at h) (fun _ _ h => by simp at h) (fun _ _ _ _ h => by simp at h))
/-- A range over a function, as it is used: what it turns, and what stays. -/
theorem WJ.rangeK {α V : Type} (enc : α → List AV) (L : List α) (S0 : V → Sg) (ks : List Nat) (I : List α → V → Prop) (Ix : Code → List α → V → Prop)
    {X : Cx} {g : Operand} {ps : Array Nat} {assign body : Code} {t : T} {σ : Sg} {Q : Qt} (v0 : V) {gf : FuncId} {caps : List AV} {av : AV} {M : List (List AV)} (hit : Iter X.Λ X.P gf caps M) (hM : M = L.map enc) (hg : ge t g = some av) (hf : FnIs av gf caps) (hcap : caps.all AV.open = true) (hok : callOk X.P gf)
    (hfl : flatT t = true) (hps : ps.toList.all (fun p => Nat.blt p X.N) = true) (hen : ∀ x, (enc x).length = ps.size) (hs : Has (S0 v0) σ) (h0 : I [] v0)
    (round : ∀ l, RoundP enc L (fun v => S0 v ++ keepG ks σ) I Ix X.P X.Λ X.N l (X.pin ++ namesOf t) ps.toList assign body t)
    (done : ∀ v, I L v → Q .normal t (S0 v ++ keepG ks σ)) (stop : ∀ c p v, Ix c p v → vc X c t (S0 v ++ keepG ks σ) Q) : WJ X (.rangeFunc g ps assign body) t σ Q :=
  WJ.rangeF enc L (fun v => S0 v ++ keepG ks σ) I Ix v0 hg hf hcap hok (hM ▸ hit) hfl hps hen (hs.wk.app (keepG_wk _ _)) h0 round done stop
end Go.Gv
end
section
open Go Go.Gv
attribute [local irreducible] Go.Gv.WJ Go.Gv.OpJ Go.Gv.QJ Go.Gv.Spl Go.Gv.Req Go.Gv.IdxP Go.Gv.RegP Go.Gv.FinP Go.Gv.CellP Go.Gv.CellsP Go.Gv.ArrP Go.Gv.ArrsP Go.Gv.DropP Go.Gv.ByteP Go.Gv.StoreP
set_option maxRecDepth 100000
namespace Go.Proofs.E
abbrev uv (n : Nat) : AV := .d (.v (.int .u64 n))
abbrev cv' (n : Int) : AV := .d (.v (.int .i32 n))
/-- What is known of an id. -/
structure EN where
  a : ID
  ch : Int
  dead : Bool
  deriving DecidableEq
abbrev enD (e : EN) : List D := [.v (.int .i64 e.a.c), .v (.int .i64 e.a.s), .v (.int .i32 e.ch), .v (.bool e.dead)]
abbrev env (e : EN) : AV := .agg [iv e.a.c, iv e.a.s, cv' e.ch, bv e.dead]
def keyI (a : ID) : Nat := a.c.toNat * 1024 + a.s.toNat
def digK (k n : Nat) : Nat := k / 16 ^ (7 - n) % 16
def namK (k : Nat) : ID := ⟨(k / 1024 : Nat), (k % 1024 : Nat)⟩
theorem wrap_u64 (x : Int) (h : 0 ≤ x) (h' : x < 18446744073709551616) : IntKind.u64.wrap x = x := by
  simp only [IntKind.wrap, IntKind.signed, IntKind.bits]; simp; omega
theorem bv_nat (n : Nat) (h : n < 2 ^ 64) : BitVec.ofInt 64 (n : Int) = BitVec.ofNat 64 n := by
  apply BitVec.eq_of_toNat_eq
  simp [BitVec.toNat_ofInt]
theorem or_lo (a b i : Nat) (h : b < 2 ^ i) (h2 : a * 2 ^ i + b < 2 ^ 64) : (BitVec.ofInt 64 ((a * 2 ^ i : Nat) : Int) ||| BitVec.ofInt 64 (b : Int)).toNat = a * 2 ^ i + b := by
  rw [bv_nat _ (by omega), bv_nat _ (by omega)]
  rw [BitVec.toNat_or, BitVec.toNat_ofNat, BitVec.toNat_ofNat, Nat.mod_eq_of_lt (by omega), Nat.mod_eq_of_lt (by omega), Nat.mul_comm, ← Nat.two_pow_add_eq_or_of_lt h]
theorem and_lo (a i : Nat) (h : a < 2 ^ 64) (hi : 2 ^ i ≤ 2 ^ 64) : (BitVec.ofInt 64 (a : Int) &&& BitVec.ofInt 64 ((2 ^ i - 1 : Nat) : Int)).toNat = a % 2 ^ i := by
  rw [bv_nat _ h, bv_nat _ (by have := Nat.two_pow_pos i; omega)]
  rw [BitVec.toNat_and, BitVec.toNat_ofNat, BitVec.toNat_ofNat, Nat.mod_eq_of_lt h, Nat.mod_eq_of_lt (by have := Nat.two_pow_pos i; omega), Nat.and_two_pow_sub_one_eq_mod]
theorem keyI_lt {a : ID} (h : mayI a = true) : keyI a < 2 ^ 31 := by
  obtain ⟨a1, a2, a3, a4⟩ := mayI_iff h
  unfold keyI; omega
theorem shl_u (a m : Nat) (hm : m < 64) (h : a * 2 ^ m < 2 ^ 64) : shlI .u64 (a : Int) (m : Int) = ((a * 2 ^ m : Nat) : Int) := by
  unfold shlI
  have e : min ((m : Nat) : Int).toNat IntKind.u64.bits = m := by
    show min ((m : Nat) : Int).toNat 64 = m
    simp; omega
  rw [e]
  have e2 : (a : Int) * 2 ^ m = ((a * 2 ^ m : Nat) : Int) := by simp
  rw [e2, wrap_u64 _ (by omega) (by omega)]
theorem or_u (a b i : Nat) (h : b < 2 ^ i) (h2 : a * 2 ^ i + b < 2 ^ 64) : orI .u64 ((a * 2 ^ i : Nat) : Int) (b : Int) = ((a * 2 ^ i + b : Nat) : Int) := by
  unfold orI
  have := or_lo a b i h h2
  rw [show (BitVec.ofInt IntKind.u64.bits ((a * 2 ^ i : Nat) : Int) ||| BitVec.ofInt IntKind.u64.bits (b : Int)).toNat = a * 2 ^ i + b from this, wrap_u64 _ (by omega) (by omega)]
theorem and_u (a i : Nat) (h : a < 2 ^ 64) (hi : 2 ^ i ≤ 2 ^ 64) : andI .u64 (a : Int) ((2 ^ i - 1 : Nat) : Int) = ((a % 2 ^ i : Nat) : Int) := by
  unfold andI
  have := and_lo a i h hi
  have hl : a % 2 ^ i < 2 ^ i := Nat.mod_lt _ (Nat.two_pow_pos i)
  rw [show (BitVec.ofInt IntKind.u64.bits (a : Int) &&& BitVec.ofInt IntKind.u64.bits ((2 ^ i - 1 : Nat) : Int)).toNat = a % 2 ^ i from this, wrap_u64 _ (by omega) (by omega)]
theorem shr_u (k m : Nat) (hm : m < 64) : shrI .u64 (k : Int) (m : Int) = ((k / 2 ^ m : Nat) : Int) := by
  unfold shrI
  have e : min ((m : Nat) : Int).toNat IntKind.u64.bits = m := by
    show min ((m : Nat) : Int).toNat 64 = m
    simp; omega
  rw [e, Int.fdiv_eq_ediv_of_nonneg _ (Int.pow_nonneg (by decide))]
  simp
theorem key_eq {c s : Int} (h1 : 0 ≤ c) (h2 : c ≤ 1048576) (h3 : 0 ≤ s) (h4 : s ≤ 1000) : orI .u64 (shlI .u64 (IntKind.u64.wrap c) ((10 : Nat) : Int)) (IntKind.u64.wrap s) = ((c.toNat * 1024 + s.toNat : Nat) : Int) := by
  have e1 : IntKind.u64.wrap c = ((c.toNat : Nat) : Int) := by rw [wrap_u64 c h1 (by omega)]; omega
  have e2 : IntKind.u64.wrap s = ((s.toNat : Nat) : Int) := by rw [wrap_u64 s h3 (by omega)]; omega
  rw [e1, e2, shl_u _ _ (by decide) (by omega), or_u _ _ _ (by omega) (by omega)]
theorem key_c (a : ID) (h : mayI a = true) : Cv 298 [idv a] (uv (keyI a)) := by
  obtain ⟨a1, a2, a3, a4⟩ := mayI_iff h
  refine Ct.of_vc Tryz.f298 Tryz.func298 rfl rfl fun w H B g0 => ?_
  refine Req.of (by decide) ?_
  exact FinP.open rfl (congrArg (fun z : Int => AV.d (.v (.int .u64 z))) (key_eq (by omega) a2 (by omega) a4))
theorem pow_16 (m : Nat) : 2 ^ (4 * m) = 16 ^ m := by rw [Nat.pow_mul]
theorem digit_eq (k n : Nat) (hk : k < 2 ^ 63) (hn : n < 8) : IntKind.i64.wrap (andI .u64 (shrI .u64 (k : Int) (IntKind.i64.wrap (4 * IntKind.i64.wrap (7 - (n : Int))))) ((2 ^ 4 - 1 : Nat) : Int)) = ((digK k n : Nat) : Int) := by
  have e : IntKind.i64.wrap (4 * IntKind.i64.wrap (7 - (n : Int))) = ((4 * (7 - n) : Nat) : Int) := by
    rw [wrap_id (7 - (n : Int)) (by omega) (by omega), wrap_id _ (by omega) (by omega)]; omega
  have h1 := Nat.div_le_self k (2 ^ (4 * (7 - n)))
  rw [e, shr_u k _ (by omega), and_u _ 4 (by omega) (by decide), pow_16]
  unfold digK
  rw [wrap_id _ (by omega) (by omega)]
theorem digit_c (k n : Nat) (hk : k < 2 ^ 63) (hn : n < 8) : Cv 297 [uv k, iv n] (iv (digK k n)) := by
  refine Ct.of_vc Tryz.f297 Tryz.func297 rfl rfl fun w H B g0 => ?_
  refine Req.of (by rw [wrap_id (7 - (n : Int)) (by omega) (by omega), wrap_id _ (by omega) (by omega)]; omega) ?_
  exact FinP.open rfl (congrArg iv (digit_eq k n hk hn))
theorem agg2 {a b c d : Int} (h : a = c) (k : b = d) : AV.agg [iv a, iv b] = AV.agg [iv c, iv d] := by rw [h, k]
theorem named_c (k : Nat) (hk : k < 2 ^ 63) : Cv 264 [uv k] (idv (namK k)) := by
  have e1 : IntKind.i64.wrap (shrI .u64 (k : Int) ((10 : Nat) : Int)) = ((k / 1024 : Nat) : Int) := by
    rw [shr_u k 10 (by decide)]; exact wrap_id _ (by omega) (by omega)
  have e2 : IntKind.i64.wrap (andI .u64 (k : Int) ((2 ^ 10 - 1 : Nat) : Int)) = ((k % 1024 : Nat) : Int) := by
    rw [and_u k 10 (by omega) (by decide)]; exact wrap_id _ (by omega) (by omega)
  refine Ct.of_vc Tryz.f264 Tryz.func264 rfl rfl fun w H B g0 => ?_
  refine Req.of (by decide) ?_
  exact FinP.open rfl (agg2 e1 e2)
end Go.Proofs.E
end
section
open Go Go.Gv
attribute [local irreducible] Go.Gv.WJ Go.Gv.OpJ Go.Gv.QJ Go.Gv.Spl Go.Gv.Req Go.Gv.IdxP Go.Gv.RegP Go.Gv.FinP Go.Gv.CellP Go.Gv.CellsP Go.Gv.ArrP Go.Gv.ArrsP Go.Gv.DropP Go.Gv.ByteP Go.Gv.StoreP
set_option maxRecDepth 100000
namespace Go.Proofs.E
inductive PT where
  | nil
  | node (ks : List PT) (e : Option EN)
abbrev nilD : D := .v (.pointer none)
abbrev eD : Option EN → D
  | none => nilD
  | some e => .ptr (enD e)
mutual
def PT.d : PT → D
  | .nil => nilD
  | .node ks e => .ptr (PT.ds ks ++ [eD e])
def PT.ds : List PT → List D
  | [] => []
  | k :: ks => k.d :: PT.ds ks
end
theorem ds_map : ∀ (ks : List PT), PT.ds ks = ks.map PT.d
  | [] => rfl
  | k :: ks => by rw [PT.ds, List.map_cons, ds_map ks]
theorem node_d (ks : List PT) (e : Option EN) : (PT.node ks e).d = .ptr (ks.map PT.d ++ [eD e]) := by rw [PT.d, ds_map]
def nils : List PT := [.nil, .nil, .nil, .nil, .nil, .nil, .nil, .nil, .nil, .nil, .nil, .nil, .nil, .nil, .nil, .nil]
def PT.kids : PT → List PT
  | .nil => nils
  | .node ks _ => ks
def PT.ent : PT → Option EN
  | .nil => none
  | .node _ e => e
def PT.isNil : PT → Bool
  | .nil => true
  | _ => false
/-- The digit of a number at a level: so many digits stand behind it. -/
def dg (k r : Nat) : Nat := k / 16 ^ r % 16
def PT.put : Nat → Nat → EN → PT → PT
  | 0, _, e, p => .node p.kids (some e)
  | r + 1, k, e, p => .node (p.kids.set (dg k r) (PT.put r k e (p.kids.getD (dg k r) .nil))) p.ent
def PT.get : Nat → Nat → PT → Option EN
  | _, _, .nil => none
  | 0, _, .node _ e => e
  | r + 1, k, .node ks _ => PT.get r k (ks.getD (dg k r) .nil)
/-- A part of so many levels. -/
def PT.wf : Nat → PT → Prop
  | 0, p => p = .nil ∨ ∃ e, p = .node nils (some e)
  | r + 1, p => p = .nil ∨ ∃ ks, p = .node ks none ∧ ks.length = 16 ∧ (∀ q, q ∈ ks → PT.wf r q) ∧ ∃ q, q ∈ ks ∧ q.isNil = false
theorem wf_nil : ∀ r, PT.wf r .nil
  | 0 => .inl rfl
  | _ + 1 => .inl rfl
theorem kids_len {r : Nat} {p : PT} (h : PT.wf r p) : p.kids.length = 16 := by
  cases r with
  | zero => rcases h with rfl | ⟨e, rfl⟩ <;> rfl
  | succ r =>
    rcases h with rfl | ⟨ks, rfl, h1, _⟩
    · rfl
    · exact h1
theorem kids_wf {r : Nat} {p : PT} (h : PT.wf (r + 1) p) : ∀ q, q ∈ p.kids → PT.wf r q := by
  rcases h with rfl | ⟨ks, rfl, _, h2, _⟩
  · intro q hq
    have : q = .nil := by simp [PT.kids, nils] at hq; exact hq
    rw [this]; exact wf_nil r
  · exact h2
theorem put_nn (r k : Nat) (e : EN) (p : PT) : (PT.put r k e p).isNil = false := by cases r <;> rfl
theorem dg_lt (k r : Nat) : dg k r < 16 := Nat.mod_lt _ (by decide)
theorem put_wf : ∀ (r k : Nat) (e : EN) (p : PT), PT.wf r p → PT.wf r (PT.put r k e p)
  | 0, k, e, p, h => .inr ⟨e, by rcases h with rfl | ⟨e', rfl⟩ <;> rfl⟩
  | r + 1, k, e, p, h => by
    have hl := kids_len h
    have hw := kids_wf h
    refine .inr ⟨p.kids.set (dg k r) (PT.put r k e (p.kids.getD (dg k r) .nil)), ?_, by rw [List.length_set]; exact hl, fun q hq => ?_, ?_⟩
    · rw [PT.put]
      congr 1
      rcases h with rfl | ⟨ks, rfl, _⟩ <;> rfl
    · rcases List.mem_or_eq_of_mem_set hq with h1 | h1
      · exact hw q h1
      · rw [h1]
        refine put_wf r k e _ ?_
        rw [List.getD_eq_getElem?_getD]
        cases hx : p.kids[dg k r]? with
        | none => exact wf_nil r
        | some q => exact hw q (List.mem_of_getElem? hx)
    · have hx : (p.kids.set (dg k r) (PT.put r k e (p.kids.getD (dg k r) .nil)))[dg k r]? = some (PT.put r k e (p.kids.getD (dg k r) .nil)) := by
        rw [List.getElem?_set, if_pos rfl, if_pos (by rw [hl]; exact dg_lt k r)]
      exact ⟨PT.put r k e (p.kids.getD (dg k r) .nil), List.mem_of_getElem? hx, put_nn r k e _⟩
theorem len16 {α : Type} {l : List α} (h : l.length = 16) : ∃ a0 a1 a2 a3 a4 a5 a6 a7 a8 a9 a10 a11 a12 a13 a14 a15, l = [a0, a1, a2, a3, a4, a5, a6, a7, a8, a9, a10, a11, a12, a13, a14, a15] := by
  match l, h with
  | [a0, a1, a2, a3, a4, a5, a6, a7, a8, a9, a10, a11, a12, a13, a14, a15], _ => exact ⟨_, _, _, _, _, _, _, _, _, _, _, _, _, _, _, _, rfl⟩
theorem dAll_ds : ∀ (l : List D), dAll (l.map AV.d) = some l
  | [] => rfl
  | x :: l => by simp [dAll, dAll_ds l, dOf]
theorem digK_dg {k r : Nat} (hr : r + 1 ≤ 8) : digK k (8 - (r + 1)) = dg k r := by
  unfold digK dg
  rw [show 7 - (8 - (r + 1)) = r by omega]
abbrev cellsP (ks : List PT) (e : Option EN) : List AV := ks.map (fun q => AV.d q.d) ++ [.d (eD e)]
theorem cells_get {ks : List PT} {e : Option EN} {m : Nat} {q : PT} (h : ks[m]? = some q) : (cellsP ks e)[0 + 0 + (m : Int).toNat * 1]? = some (.d q.d) := by
  have hm := (List.getElem?_eq_some_iff.1 h).1
  have e1 : 0 + 0 + (m : Int).toNat * 1 = m := by simp
  rw [e1, List.getElem?_append_left (by simpa using hm)]; simp [h]
theorem cells_pub {ks : List PT} {e : Option EN} {m : Nat} (q : PT) (h : m < ks.length) : pubOf (.cells (setL (cellsP ks e) (0 + 0 + (m : Int).toNat * 1) [.d q.d])) = some (.c ((ks.set m q).map PT.d ++ [eD e])) := by
  have e1 : 0 + 0 + (m : Int).toNat * 1 = m := by simp
  have e2 : setL (cellsP ks e) m [.d q.d] = ((ks.set m q).map PT.d ++ [eD e]).map AV.d := by
    show (cellsP ks e).set m (.d q.d) = _
    rw [List.set_append_left _ _ (by simpa using h), List.map_append, List.map_map, List.map_set]
    rfl
  rw [e1, e2]
  simp only [pubOf, dAll_ds]
theorem nils_getD (m : Nat) : nils.getD m .nil = .nil := by
  rw [List.getD_eq_getElem?_getD]
  cases h : nils[m]? with
  | none => rfl
  | some q => have := List.mem_of_getElem? h; simp [nils] at this; exact this
theorem nils_get {m : Nat} (h : m < 16) : nils[m]? = some .nil := by
  cases h2 : nils[m]? with
  | none => rw [List.getElem?_eq_none_iff] at h2; simp [nils] at h2; omega
  | some q => have := List.mem_of_getElem? h2; simp [nils] at this; rw [this]
set_option maxHeartbeats 4000000 in
theorem put_c : ∀ (r k : Nat) (e : EN) (p : PT), r ≤ 8 → k < 2 ^ 63 → PT.wf r p → Cv 300 [.d p.d, uv k, iv ((8 - r : Nat) : Int), env e] (.d (PT.put r k e p).d)
  | 0, k, e, p, hr, hk, hw => by
    rcases hw with rfl | ⟨e', rfl⟩
    · refine Ct.of_vc Tryz.f300 Tryz.func300 rfl rfl fun w H B g0 => ?_
      (repeat (first | refine Spl.t rfl ?_ | refine Spl.f rfl ?_))
      exact FinP.pub 7 rfl rfl (FinP.pub 12 rfl rfl (FinP.open rfl rfl))
    · refine Ct.of_vc Tryz.f300 Tryz.func300 rfl rfl fun w H B g0 => ?_
      (repeat (first | refine Spl.t rfl ?_ | refine Spl.f rfl ?_))
      exact FinP.pub 7 rfl rfl (FinP.pub 12 rfl rfl (FinP.open rfl rfl))
  | r + 1, k, e, p, hr, hk, hw => by
    have hd := digit_c k (8 - (r + 1)) hk (by omega)
    rw [digK_dg hr] at hd
    have ih := fun q (hq : PT.wf r q) => put_c r k e q (by omega) hk hq
    have hlt := dg_lt k r
    have e8 : ¬ ((8 - (r + 1) : Nat) : Int) = 8 := by omega
    have e9 : IntKind.i64.wrap (((8 - (r + 1) : Nat) : Int) + 1) = ((8 - r : Nat) : Int) := by rw [wrap_id _ (by omega) (by omega)]; omega
    rcases hw with rfl | ⟨ks, rfl, hl, hws, _⟩
    · refine Ct.of_vc Tryz.f300 Tryz.func300 rfl rfl fun w H B g0 => ?_
      (repeat (first | refine Spl.t rfl ?_ | refine Spl.f rfl ?_))
      refine Spl.f (decide_eq_false e8) ?_
      refine OpJ.callV hd (fun _ _ => rfl) rfl rfl rfl ?_
      refine RegP.mix 16 rfl (by decide +kernel) ?_
      refine Req.of ⟨by omega, by omega⟩ ?_
      refine CellP.of (.d PT.nil.d) (cells_get (ks := nils) (e := none) (nils_get hlt)) ?_
      refine QuietP.of (QJ.call (ih .nil (wf_nil r)) (fun _ _ => rfl) (by rw [← e9]; rfl) rfl) ?_
      refine Req.of ⟨by omega, by omega⟩ ?_
      refine Req.of (show 0 + 0 + ((dg k r : Nat) : Int).toNat * 1 + 1 ≤ 17 by simp; omega) ?_
      refine FinP.pub 12 rfl (cells_pub (ks := nils) (e := none) (PT.put r k e .nil) hlt) (FinP.open rfl ?_)
      rw [PT.put, show PT.nil.kids = nils from rfl, nils_getD, node_d]; rfl
    · have hlk : dg k r < ks.length := by omega
      obtain ⟨q, hq⟩ : ∃ q, ks[dg k r]? = some q := ⟨ks[dg k r], by simp [hlk]⟩
      have hqw := hws q (List.mem_of_getElem? hq)
      have hput : PT.put (r + 1) k e (.node ks none) = .node (ks.set (dg k r) (PT.put r k e q)) none := by
        rw [PT.put, show (PT.node ks none).kids = ks from rfl, List.getD_eq_getElem?_getD, hq]; rfl
      rw [hput, node_d, node_d]
      obtain ⟨a0, a1, a2, a3, a4, a5, a6, a7, a8, a9, a10, a11, a12, a13, a14, a15, rfl⟩ := len16 hl
      refine Ct.of_vc Tryz.f300 Tryz.func300 rfl rfl fun w H B g0 => ?_
      (repeat (first | refine Spl.t rfl ?_ | refine Spl.f rfl ?_))
      refine Spl.f (decide_eq_false e8) ?_
      refine OpJ.callV hd (fun _ _ => rfl) rfl rfl rfl ?_
      refine RegP.mix 16 rfl (by decide +kernel) ?_
      refine Req.of ⟨by omega, by omega⟩ ?_
      refine CellP.of (.d q.d) (cells_get (ks := [a0, a1, a2, a3, a4, a5, a6, a7, a8, a9, a10, a11, a12, a13, a14, a15]) (e := none) hq) ?_
      refine QuietP.of (QJ.call (ih q hqw) (fun _ _ => rfl) (by rw [← e9]; rfl) rfl) ?_
      refine Req.of ⟨by omega, by omega⟩ ?_
      refine Req.of (show 0 + 0 + ((dg k r : Nat) : Int).toNat * 1 + 1 ≤ 17 by simp; omega) ?_
      refine FinP.pub 12 rfl (cells_pub (ks := [a0, a1, a2, a3, a4, a5, a6, a7, a8, a9, a10, a11, a12, a13, a14, a15]) (e := none) (PT.put r k e q) hlt) (FinP.open rfl ?_)
      rfl
end Go.Proofs.E
end
section
open Go Go.Gv
attribute [local irreducible] Go.Gv.WJ Go.Gv.OpJ Go.Gv.QJ Go.Gv.Spl Go.Gv.Req Go.Gv.IdxP Go.Gv.RegP Go.Gv.FinP Go.Gv.CellP Go.Gv.CellsP Go.Gv.ArrP Go.Gv.ArrsP Go.Gv.DropP Go.Gv.ByteP Go.Gv.StoreP
set_option maxRecDepth 100000
namespace Go.Proofs.E
abbrev mapv (p : PT) (n : Int) : AV := .agg [.d p.d, iv n]
def EN.zero : EN := ⟨⟨0, 0⟩, 0, false⟩
def getM (p : PT) (a : ID) : Option EN := if mayI a = true then PT.get 8 (keyI a) p else none
abbrev getv : Option EN → AV
  | some e => .tup [env e, bv true]
  | none => .tup [env EN.zero, bv false]
/-- What is left of a way down. -/
def down (k : Nat) (p : PT) : Nat → PT
  | 0 => p
  | i + 1 => (down k p i).kids.getD (dg k (7 - i)) .nil
theorem node_kid {ks : List PT} {e : Option EN} {m : Nat} {q : PT} (h : ks[m]? = some q) : (PT.ds ks ++ [eD e]).drop (m * 1) = q.d :: (ks.map PT.d ++ [eD e]).drop (m + 1) := by
  have hm := (List.getElem?_eq_some_iff.1 h).1
  rw [ds_map, Nat.mul_one, List.drop_eq_getElem_cons (by simp; omega)]
  congr 1
  rw [List.getElem_append_left (by simpa using hm), List.getElem_map]
  congr 1
  exact (List.getElem?_eq_some_iff.1 h).2
theorem Get4_c (p : PT) (n : Int) (a : ID) (hw : PT.wf 8 p) : Cv 284 [mapv p n, idv a] (getv (getM p a)) := by
  refine Ct.of_vc Tryz.f284 Tryz.func284 rfl rfl fun w H B g0 => ?_
  refine OpJ.callV (Check_c a) (fun _ _ => rfl) rfl rfl rfl ?_
  refine Spl.of (fun h => ?_) (fun h => ?_)
  · have hm : ¬ mayI a = true := fun y => by simp [checkI, y] at h
    rw [getM, if_neg hm]
    exact FinP.open rfl rfl
  · have hm : mayI a = true := by
      cases y : mayI a with
      | true => rfl
      | false => simp [checkI, y] at h
    rw [getM, if_pos hm]
    (repeat (first | refine Spl.t rfl ?_ | refine Spl.f rfl ?_))
    refine WJ.loopK (V := Nat × PT) (fun v => [(7, iv v.1), (6, .d v.2.d)]) (fun _ => []) [] (fun v => 8 - v.1) (fun v => v.1 ≤ 8 ∧ PT.wf (8 - v.1) v.2 ∧ PT.get (8 - v.1) (keyI a) v.2 = PT.get 8 (keyI a) p) (0, p) ⟨by omega, hw, rfl⟩ (by repeat' (first | exact trivial | exact rfl | refine And.intro ?_ ?_)) (by repeat' (first | exact trivial | exact rfl | refine And.intro ?_ ?_)) ?_
    rintro ⟨i, q⟩ ⟨hi, hq, hg⟩
    simp only at hi hq hg
    refine Spl.of (fun h1 => ?_) (fun h1 => ?_)
    · have hlt : i < 8 := by have := of_decide_eq_true h1; simp only at this; omega
      obtain ⟨r, hr⟩ : ∃ r, 8 - i = r + 1 := ⟨7 - i, by omega⟩
      rw [hr] at hq hg
      rcases hq with rfl | ⟨ks, rfl, hl, hws, _⟩
      · have hn : PT.get 8 (keyI a) p = none := by rw [← hg]; cases r <;> rfl
        rw [hn]
        (repeat (first | refine Spl.t rfl ?_ | refine Spl.f rfl ?_))
        exact FinP.open rfl rfl
      · have hd := digit_c (keyI a) i (by have := keyI_lt hm; omega) hlt
        have e1 : digK (keyI a) i = dg (keyI a) r := by unfold digK dg; rw [show 7 - i = r by omega]
        rw [e1] at hd
        have hlt2 := dg_lt (keyI a) r
        obtain ⟨q', hq'⟩ : ∃ q', ks[dg (keyI a) r]? = some q' := ⟨ks[dg (keyI a) r]'(by omega), by simp⟩
        have e2 : 8 - (i + 1) = r := by omega
        have hg' : PT.get r (keyI a) q' = PT.get 8 (keyI a) p := by
          rw [← hg, PT.get, List.getD_eq_getElem?_getD, hq']; rfl
        (repeat (first | refine Spl.t rfl ?_ | refine Spl.f rfl ?_))
        refine RegP.of rfl (by decide +kernel) ?_
        refine QuietP.of (QJ.call (key_c a hm) (fun _ _ => rfl) rfl rfl) ?_
        refine QuietP.of (QJ.call hd (fun _ _ => rfl) rfl rfl) ?_
        refine Req.of ⟨by omega, by omega⟩ ?_
        refine DropP.of _ (node_kid hq') (Nat.succ_le_succ (Nat.zero_le _)) ?_
        (repeat (first | refine Spl.t rfl ?_ | refine Spl.f rfl ?_))
        exact ⟨(i + 1, q'), ⟨by simp only; omega, by simp only [e2]; exact hws q' (List.mem_of_getElem? hq'), by simp only [e2]; exact hg'⟩, by simp only; omega, ⟨some_iv (wrap_id _ (by omega) (by omega)), rfl, trivial⟩, (by repeat' (first | exact trivial | exact rfl | refine And.intro ?_ ?_)), (by repeat' (first | exact trivial | exact rfl | refine And.intro ?_ ?_)), (by repeat' (first | exact trivial | exact rfl | refine And.intro ?_ ?_))⟩
    · have he : i = 8 := by have := of_decide_eq_false h1; simp only at this; omega
      subst he
      rcases hq with rfl | ⟨e, rfl⟩
      · have hn : PT.get 8 (keyI a) p = none := by rw [← hg]; rfl
        rw [hn]
        (repeat (first | refine Spl.t rfl ?_ | refine Spl.f rfl ?_))
        exact FinP.open rfl rfl
      · have hn : PT.get 8 (keyI a) p = some e := by rw [← hg]; rfl
        rw [hn]
        (repeat (first | refine Spl.t rfl ?_ | refine Spl.f rfl ?_))
        exact FinP.open rfl rfl
theorem PutM_c (p : PT) (n : Int) (a : ID) (e : EN) (hw : PT.wf 8 p) (h0 : 0 ≤ n) (h1 : n ≤ 1000000) : Cv 286 [mapv p n, idv a, env e]
    (if mayI a = true then .tup [mapv (PT.put 8 (keyI a) e p) (if (getM p a).isSome = true then n else n + 1), bv true] else .tup [mapv p n, bv false]) := by
  have hg := Get4_c p n a hw
  refine Ct.of_vc Tryz.f286 Tryz.func286 rfl rfl fun w H B g0 => ?_
  refine OpJ.callV (Check_c a) (fun _ _ => rfl) rfl rfl rfl ?_
  refine Spl.of (fun h => ?_) (fun h => ?_)
  · have hm : ¬ mayI a = true := fun y => by simp [checkI, y] at h
    rw [if_neg hm]
    (repeat (first | refine Spl.t rfl ?_ | refine Spl.f rfl ?_))
    exact FinP.open rfl rfl
  · have hm : mayI a = true := by
      cases y : mayI a with
      | true => rfl
      | false => simp [checkI, y] at h
    have hp := put_c 8 (keyI a) e p (Nat.le_refl _) (by have := keyI_lt hm; omega) hw
    rw [if_pos hm]
    (repeat (first | refine Spl.t rfl ?_ | refine Spl.f rfl ?_))
    cases hgm : getM p a with
    | some e' =>
      rw [hgm] at hg
      refine OpJ.callV hg (fun _ _ => rfl) rfl rfl rfl ?_
      (repeat (first | refine Spl.t rfl ?_ | refine Spl.f rfl ?_))
      refine RegP.of rfl (by decide +kernel) ?_
      refine QuietP.of (QJ.call (key_c a hm) (fun _ _ => rfl) rfl rfl) ?_
      refine QuietP.of (QJ.call hp (fun _ _ => rfl) rfl rfl) ?_
      (repeat (first | refine Spl.t rfl ?_ | refine Spl.f rfl ?_))
      exact FinP.open rfl rfl
    | none =>
      rw [hgm] at hg
      refine OpJ.callV hg (fun _ _ => rfl) rfl rfl rfl ?_
      (repeat (first | refine Spl.t rfl ?_ | refine Spl.f rfl ?_))
      refine RegP.of rfl (by decide +kernel) ?_
      refine QuietP.of (QJ.call (key_c a hm) (fun _ _ => rfl) rfl rfl) ?_
      refine QuietP.of (QJ.call hp (fun _ _ => rfl) rfl rfl) ?_
      (repeat (first | refine Spl.t rfl ?_ | refine Spl.f rfl ?_))
      refine FinP.open rfl ?_
      show AV.tup [.agg [_, iv (IntKind.i64.wrap (n + 1))], _] = _
      rw [wrap_id _ (by omega) (by omega)]; rfl
end Go.Proofs.E
end
section
open Go Go.Gv
namespace Go.Proofs.E
abbrev KE := Nat × EN
def elems : Nat → Nat → PT → List KE
  | 0, k, p => match p.ent with | some e => [(k, e)] | none => []
  | r + 1, k, p => (List.range 16).flatMap fun d => elems r (16 * k + d) (p.kids.getD d .nil)
def insK (x : Nat) (e : EN) : List KE → List KE
  | [] => [(x, e)]
  | y :: l => if x < y.1 then (x, e) :: y :: l else if x = y.1 then (x, e) :: l else y :: insK x e l
theorem elems_nil : ∀ (r k : Nat), elems r k .nil = []
  | 0, k => rfl
  | r + 1, k => by
    rw [elems]
    refine List.flatMap_eq_nil_iff.2 fun d _ => ?_
    rw [show PT.nil.kids = nils from rfl, nils_getD, elems_nil r]
theorem elems_rng : ∀ (r k : Nat) (p : PT) (x : KE), x ∈ elems r k p → k * 16 ^ r ≤ x.1 ∧ x.1 < (k + 1) * 16 ^ r
  | 0, k, p, x, h => by
    rw [elems] at h
    split at h
    · simp at h; subst h; simp
    · simp at h
  | r + 1, k, p, x, h => by
    rw [elems, List.mem_flatMap] at h
    obtain ⟨d, hd, hx⟩ := h
    have hd := List.mem_range.1 hd
    obtain ⟨h1, h2⟩ := elems_rng r _ _ x hx
    have e1 : k * 16 ^ (r + 1) = (16 * k) * 16 ^ r := by rw [Nat.pow_succ]; rw [Nat.mul_comm (16 ^ r), ← Nat.mul_assoc, Nat.mul_comm k]
    have e2 : (k + 1) * 16 ^ (r + 1) = (16 * k + 16) * 16 ^ r := by rw [Nat.pow_succ, Nat.mul_comm (16 ^ r), ← Nat.mul_assoc]; congr 1; omega
    rw [e1, e2]
    refine ⟨Nat.le_trans (Nat.mul_le_mul_right _ (by omega)) h1, Nat.lt_of_lt_of_le h2 (Nat.mul_le_mul_right _ (by omega))⟩
theorem insK_right {x : Nat} {e : EN} : ∀ {A B : List KE}, (∀ y, y ∈ A → y.1 < x) → insK x e (A ++ B) = A ++ insK x e B
  | [], B, _ => rfl
  | a :: A, B, h => by
    have h1 := h a (by simp)
    rw [List.cons_append, insK, if_neg (by omega), if_neg (by omega), insK_right fun y hy => h y (List.mem_cons_of_mem _ hy)]; rfl
theorem insK_left {x : Nat} {e : EN} : ∀ {A B : List KE}, (∀ y, y ∈ B → x < y.1) → insK x e (A ++ B) = insK x e A ++ B
  | [], [], _ => rfl
  | [], b :: B, h => by
    have h1 := h b (by simp)
    show insK x e (b :: B) = [(x, e)] ++ (b :: B)
    rw [insK, if_pos h1]; rfl
  | a :: A, B, h => by
    rw [List.cons_append, insK, insK]
    split
    · rfl
    · split
      · rfl
      · rw [insK_left h]; rfl
theorem range_at {d : Nat} (h : d < 16) : List.range 16 = List.range d ++ d :: List.range' (d + 1) (15 - d) := by
  rw [List.range_eq_range', List.range_eq_range', show (16 : Nat) = d + (16 - d) by omega, ← List.range'_append_1 (s := 0) (m := d) (n := 16 - d), Nat.zero_add, show 16 - d = (15 - d) + 1 by omega, List.range'_succ]
theorem getD_set {α : Type} (l : List α) (i j : Nat) (x y : α) : (l.set i x).getD j y = if i = j ∧ i < l.length then x else l.getD j y := by
  rw [List.getD_eq_getElem?_getD, List.getElem?_set, List.getD_eq_getElem?_getD]
  by_cases h : i = j
  · subst h
    by_cases h2 : i < l.length
    · simp [h2]
    · rw [if_pos rfl, if_neg h2, if_neg (fun x => h2 x.2), List.getElem?_eq_none (by omega)]
  · rw [if_neg h, if_neg (fun x => h x.1)]
theorem elems_put : ∀ (r k x : Nat) (e : EN) (p : PT), PT.wf r p → k * 16 ^ r ≤ x → x < (k + 1) * 16 ^ r → elems r k (PT.put r x e p) = insK x e (elems r k p)
  | 0, k, x, e, p, hw, h1, h2 => by
    have hx : x = k := by simp at h1 h2; omega
    subst hx
    rcases hw with rfl | ⟨e', rfl⟩
    · rfl
    · simp [elems, PT.put, PT.ent, insK]
  | r + 1, k, x, e, p, hw, h1, h2 => by
    have hl := kids_len hw
    have hws := kids_wf hw
    have hd := dg_lt x r
    have e1 : k * 16 ^ (r + 1) = (16 * k) * 16 ^ r := by rw [Nat.pow_succ, Nat.mul_comm (16 ^ r), ← Nat.mul_assoc, Nat.mul_comm k]
    have e2 : (k + 1) * 16 ^ (r + 1) = (16 * k + 16) * 16 ^ r := by rw [Nat.pow_succ, Nat.mul_comm (16 ^ r), ← Nat.mul_assoc]; congr 1; omega
    rw [e1] at h1
    rw [e2] at h2
    have hp : 0 < 16 ^ r := Nat.pow_pos (by decide)
    have hq : x / 16 ^ r = 16 * k + dg x r := by
      have a1 : 16 * k ≤ x / 16 ^ r := (Nat.le_div_iff_mul_le hp).2 h1
      have a2 : x / 16 ^ r < 16 * k + 16 := (Nat.div_lt_iff_lt_mul hp).2 h2
      unfold dg; omega
    have hlo : (16 * k + dg x r) * 16 ^ r ≤ x := by rw [← hq]; exact Nat.div_mul_le_self _ _
    have hhi : x < (16 * k + dg x r + 1) * 16 ^ r := by rw [← hq]; exact Nat.lt_mul_of_div_lt (by omega) hp
    have hkid : PT.wf r (p.kids.getD (dg x r) .nil) := by
      rw [List.getD_eq_getElem?_getD]
      cases hx : p.kids[dg x r]? with
      | none => exact wf_nil r
      | some q => exact hws q (List.mem_of_getElem? hx)
    have ih := elems_put r (16 * k + dg x r) x e _ hkid hlo hhi
    rw [PT.put, elems, elems, range_at hd]
    simp only [List.flatMap_append, List.flatMap_cons]
    rw [show (PT.node (p.kids.set (dg x r) (PT.put r x e (p.kids.getD (dg x r) PT.nil))) p.ent).kids = p.kids.set (dg x r) (PT.put r x e (p.kids.getD (dg x r) PT.nil)) from rfl]
    have same : ∀ l : List Nat, (∀ d, d ∈ l → d ≠ dg x r) → (l.flatMap fun d => elems r (16 * k + d) ((p.kids.set (dg x r) (PT.put r x e (p.kids.getD (dg x r) PT.nil))).getD d .nil)) = l.flatMap fun d => elems r (16 * k + d) (p.kids.getD d .nil) := fun l hl' => by
      induction l with
      | nil => rfl
      | cons a l ih2 =>
        rw [List.flatMap_cons, List.flatMap_cons, ih2 fun d hd => hl' d (List.mem_cons_of_mem _ hd), getD_set, if_neg (fun h => hl' a (by simp) h.1.symm)]
    rw [same _ fun d hd => by have := List.mem_range.1 hd; omega, same _ fun d hd => by have := List.mem_range'_1.1 hd; omega, getD_set, if_pos ⟨rfl, by omega⟩, ih]
    rw [insK_right fun y hy => ?_, insK_left fun y hy => ?_]
    · rw [List.mem_flatMap] at hy
      obtain ⟨d, hd', hy⟩ := hy
      have hd' := List.mem_range'_1.1 hd'
      have := (elems_rng r _ _ y hy).1
      exact Nat.lt_of_lt_of_le hhi (Nat.le_trans (Nat.mul_le_mul_right _ (by omega)) this)
    · rw [List.mem_flatMap] at hy
      obtain ⟨d, hd', hy⟩ := hy
      have hd' := List.mem_range.1 hd'
      have := (elems_rng r _ _ y hy).2
      exact Nat.lt_of_lt_of_le this (Nat.le_trans (Nat.mul_le_mul_right _ (by omega)) hlo)
end Go.Proofs.E
end
section
open Go Go.Gv
attribute [local irreducible] Go.Gv.WJ Go.Gv.OpJ Go.Gv.QJ Go.Gv.Spl Go.Gv.Req Go.Gv.IdxP Go.Gv.RegP Go.Gv.FinP Go.Gv.CellP Go.Gv.CellsP Go.Gv.ArrP Go.Gv.ArrsP Go.Gv.DropP Go.Gv.ByteP Go.Gv.StoreP
set_option maxRecDepth 100000
namespace Go.Proofs.E
theorem alook_app {κ α : Type} [DecidableEq κ] (n : κ) : ∀ (A B : List (κ × α)), alook n (A ++ B) = (alook n A).or (alook n B)
  | [], B => by simp [alook]
  | p :: A, B => by
    simp only [List.cons_append, alook]
    split
    · simp
    · exact alook_app n A B
theorem alook_none {κ α : Type} [DecidableEq κ] {n : κ} : ∀ {m : List (κ × α)}, (∀ p, p ∈ m → n ≠ p.1) → alook n m = none
  | [], _ => rfl
  | p :: m, h => by rw [alook, if_neg (h p (by simp)), alook_none fun q hq => h q (List.mem_cons_of_mem _ hq)]
theorem elems_get : ∀ (r k x : Nat) (p : PT), PT.wf r p → k * 16 ^ r ≤ x → x < (k + 1) * 16 ^ r → PT.get r x p = alook x (elems r k p)
  | 0, k, x, p, hw, h1, h2 => by
    have hx : x = k := by simp at h1 h2; omega
    subst hx
    rcases hw with rfl | ⟨e', rfl⟩
    · rfl
    · simp [elems, PT.get, PT.ent, alook]
  | r + 1, k, x, p, hw, h1, h2 => by
    have hl := kids_len hw
    have hws := kids_wf hw
    have hd := dg_lt x r
    have e1 : k * 16 ^ (r + 1) = (16 * k) * 16 ^ r := by rw [Nat.pow_succ, Nat.mul_comm (16 ^ r), ← Nat.mul_assoc, Nat.mul_comm k]
    have e2 : (k + 1) * 16 ^ (r + 1) = (16 * k + 16) * 16 ^ r := by rw [Nat.pow_succ, Nat.mul_comm (16 ^ r), ← Nat.mul_assoc]; congr 1; omega
    rw [e1] at h1
    rw [e2] at h2
    have hp : 0 < 16 ^ r := Nat.pow_pos (by decide)
    have hq : x / 16 ^ r = 16 * k + dg x r := by
      have a1 : 16 * k ≤ x / 16 ^ r := (Nat.le_div_iff_mul_le hp).2 h1
      have a2 : x / 16 ^ r < 16 * k + 16 := (Nat.div_lt_iff_lt_mul hp).2 h2
      unfold dg; omega
    have hlo : (16 * k + dg x r) * 16 ^ r ≤ x := by rw [← hq]; exact Nat.div_mul_le_self _ _
    have hhi : x < (16 * k + dg x r + 1) * 16 ^ r := by rw [← hq]; exact Nat.lt_mul_of_div_lt (by omega) hp
    have hkid : PT.wf r (p.kids.getD (dg x r) .nil) := by
      rw [List.getD_eq_getElem?_getD]
      cases hx : p.kids[dg x r]? with
      | none => exact wf_nil r
      | some q => exact hws q (List.mem_of_getElem? hx)
    have ih := elems_get r (16 * k + dg x r) x _ hkid hlo hhi
    have hget : PT.get (r + 1) x p = PT.get r x (p.kids.getD (dg x r) .nil) := by
      cases p with
      | nil => rw [show PT.nil.kids = nils from rfl, nils_getD]; cases r <;> rfl
      | node ks e => rfl
    have hA : alook x ((List.range (dg x r)).flatMap fun d => elems r (16 * k + d) (p.kids.getD d .nil)) = none := alook_none fun y hy => by
      rw [List.mem_flatMap] at hy
      obtain ⟨d, hd', hy⟩ := hy
      have hd' := List.mem_range.1 hd'
      have h3 := (elems_rng r _ _ y hy).2
      have h4 := Nat.mul_le_mul_right (16 ^ r) (show 16 * k + d + 1 ≤ 16 * k + dg x r by omega)
      omega
    have hC : alook x ((List.range' (dg x r + 1) (15 - dg x r)).flatMap fun d => elems r (16 * k + d) (p.kids.getD d .nil)) = none := alook_none fun y hy => by
      rw [List.mem_flatMap] at hy
      obtain ⟨d, hd', hy⟩ := hy
      have hd' := List.mem_range'_1.1 hd'
      have h3 := (elems_rng r _ _ y hy).1
      have h4 := Nat.le_trans (Nat.mul_le_mul_right (16 ^ r) (show 16 * k + dg x r + 1 ≤ 16 * k + d by omega)) h3
      omega
    rw [hget, ih, elems, range_at hd]
    simp only [List.flatMap_append, List.flatMap_cons]
    rw [alook_app, alook_app, hA, hC, Option.none_or, Option.or_none]
/-- The elements from a digit on. -/
def restK (r k : Nat) (ks : List PT) (d : Nat) : List KE := (List.range' d (16 - d)).flatMap fun d => elems r (16 * k + d) (ks.getD d .nil)
theorem restK_all (r k : Nat) (ks : List PT) (e : Option EN) : elems (r + 1) k (.node ks e) = restK r k ks 0 := by
  rw [elems, restK, List.range_eq_range']; rfl
theorem restK_step (r k : Nat) (ks : List PT) {d : Nat} (h : d < 16) : restK r k ks d = elems r (16 * k + d) (ks.getD d .nil) ++ restK r k ks (d + 1) := by
  rw [restK, restK, show 16 - d = (16 - (d + 1)) + 1 by omega, List.range'_succ, List.flatMap_cons]
theorem restK_end (r k : Nat) (ks : List PT) : restK r k ks 16 = [] := rfl
abbrev keA (x : KE) : List AV := [idv (namK x.1), env x.2]
theorem shl4 {k : Nat} (h : k < 2 ^ 58) {d : Nat} (hd : d < 16) : orI .u64 (shlI .u64 (k : Int) ((4 : Nat) : Int)) (IntKind.u64.wrap (d : Int)) = ((16 * k + d : Nat) : Int) := by
  rw [wrap_u64 _ (by omega) (by omega), shl_u _ _ (by decide) (by omega), or_u _ _ _ (by omega) (by omega)]
  congr 1; omega
theorem closed_res {pin : List Nat} {ρ : Res} {s : ρ.S} {b : Bool} : closedB pin (bv b) [(0, .res ρ s)] := by
  refine ⟨fun j hj => (by cases hj), fun i e hi j hj => ?_⟩
  rw [look_cons] at hi
  by_cases h : i = 0
  · rw [if_pos h] at hi; cases hi; cases hj
  · rw [if_neg h] at hi; cases hi
set_option maxHeartbeats 2000000 in
theorem walk_c : ∀ (r k : Nat) (p : PT), r ≤ 8 → PT.wf r p → p.isNil = false → (k + 1) * 16 ^ r ≤ 2 ^ 58 → ∀ (ρ : Res), ρ.P = Tryz.prog → ρ.Λ = tab → ∀ s, Gv.Can ρ s ((elems r k p).map keA) →
    Ct tab Tryz.prog 303 [.d p.d, uv k, .d (.v ρ.fv)] [(0, .res ρ s)] (fun q σ' => ∃ b s', Feeds ρ s ((elems r k p).map keA) b s' ∧ q = bv b ∧ σ' = [(0, .res ρ s')])
  | 0, k, p, hr8, hw, hn, hk, ρ, hP, hΛ, s, hc => by
    rcases hw with rfl | ⟨e, rfl⟩
    · cases hn
    · have hc0 : Gv.Can ρ s [keA (k, e)] := hc
      show Ct tab _ _ _ _ (fun q σ' => ∃ b s', Feeds ρ s [keA (k, e)] b s' ∧ q = bv b ∧ σ' = [(0, .res ρ s')])
      refine Ct.of_vc Tryz.f303 Tryz.func303 rfl rfl fun w H B g0 => ?_
      (repeat (first | refine Spl.t rfl ?_ | refine Spl.f rfl ?_))
      refine RegP.mix 9 rfl (by decide +kernel) ?_
      refine QuietP.of (QJ.call (named_c k (by omega)) (fun _ _ => rfl) rfl rfl) ?_
      refine OpJ.callRes (j := 0) (ρ := ρ) (st := s) (avs := keA (k, e)) hP hΛ rfl rfl rfl rfl rfl rfl hc0.1 fun b s' hs => ?_
      refine FinP.of [(0, .res ρ s')] (Wk.cons rfl (Wk.nil _)) ?_ ⟨b, s', ?_, rfl, rfl⟩
      · exact closed_res
      · cases b with
        | true => exact .go hs (.nil _)
        | false => exact .stop hs
  | r + 1, k, p, hr8, hw, hn, hk, ρ, hP, hΛ, s, hc => by
    have hk58 : k < 2 ^ 58 := Nat.lt_of_lt_of_le (Nat.lt_succ_self k) (Nat.le_trans (Nat.le_mul_of_pos_right (k + 1) (Nat.pow_pos (by decide))) hk)
    rcases hw with rfl | ⟨ks, rfl, hl, hws, _⟩
    · cases hn
    · rw [restK_all] at hc ⊢
      obtain ⟨a0, a1, a2, a3, a4, a5, a6, a7, a8, a9, a10, a11, a12, a13, a14, a15, hks⟩ := len16 hl
      have hd : (PT.node ks none).d = .ptr [a0.d, a1.d, a2.d, a3.d, a4.d, a5.d, a6.d, a7.d, a8.d, a9.d, a10.d, a11.d, a12.d, a13.d, a14.d, a15.d, nilD] := by rw [hks]; rfl
      have hget : ∀ (d : Nat) (q : PT), ks[d]? = some q → [AV.d a0.d, AV.d a1.d, AV.d a2.d, AV.d a3.d, AV.d a4.d, AV.d a5.d, AV.d a6.d, AV.d a7.d, AV.d a8.d, AV.d a9.d, AV.d a10.d, AV.d a11.d, AV.d a12.d, AV.d a13.d, AV.d a14.d, AV.d a15.d][d]? = some (AV.d q.d) := fun d q h => by
        have : [AV.d a0.d, AV.d a1.d, AV.d a2.d, AV.d a3.d, AV.d a4.d, AV.d a5.d, AV.d a6.d, AV.d a7.d, AV.d a8.d, AV.d a9.d, AV.d a10.d, AV.d a11.d, AV.d a12.d, AV.d a13.d, AV.d a14.d, AV.d a15.d] = ks.map fun q => AV.d q.d := by rw [hks]; rfl
        rw [this, List.getElem?_map, h]; rfl
      rw [hd]
      refine Ct.of_vc Tryz.f303 Tryz.func303 rfl rfl fun w H B g0 => ?_
      (repeat (first | refine Spl.t rfl ?_ | refine Spl.f rfl ?_))
      refine WJ.loopK (V := Nat × ρ.S) (fun v => [(28, iv v.1)]) (fun v => [(0, .res ρ v.2)]) [0] (fun v => 16 - v.1) (fun v => v.1 ≤ 16 ∧ Gv.Can ρ v.2 ((restK r k ks v.1).map keA) ∧ ∀ b s', Feeds ρ v.2 ((restK r k ks v.1).map keA) b s' → Feeds ρ s ((restK r k ks 0).map keA) b s') (0, s) ⟨by simp, hc, fun _ _ h => h⟩ (by repeat' (first | exact trivial | exact rfl | refine And.intro ?_ ?_)) (by repeat' (first | exact trivial | exact rfl | refine And.intro ?_ ?_)) ?_
      rintro ⟨d, s1⟩ ⟨hd16, hcan, hfe⟩
      simp only at hd16 hcan hfe
      refine Spl.of (fun h1 => ?_) (fun h1 => ?_)
      · have hlt : d < 16 := by have := of_decide_eq_true h1; simp only at this; omega
        obtain ⟨q, hq⟩ : ∃ q, ks[d]? = some q := ⟨ks[d]'(by omega), by simp⟩
        have hgd : ks.getD d .nil = q := by rw [List.getD_eq_getElem?_getD, hq]; rfl
        rw [restK_step r k ks hlt, hgd, List.map_append] at hcan hfe
        have hcan := Can.app hcan
        (repeat (first | refine Spl.t rfl ?_ | refine Spl.f rfl ?_))
        refine Req.of ⟨by omega, by omega⟩ ?_
        refine CellP.of (.d q.d) (show ([AV.d a0.d, AV.d a1.d, AV.d a2.d, AV.d a3.d, AV.d a4.d, AV.d a5.d, AV.d a6.d, AV.d a7.d, AV.d a8.d, AV.d a9.d, AV.d a10.d, AV.d a11.d, AV.d a12.d, AV.d a13.d, AV.d a14.d, AV.d a15.d])[d * 1]? = some (AV.d q.d) from (by rw [Nat.mul_one]; exact hget d q hq)) ?_
        have hstep : ∀ b s', Feeds ρ s1 ((elems r (16 * k + d) q).map keA) b s' → (b = true → Gv.Can ρ s' ((restK r k ks (d + 1)).map keA) ∧ ∀ b' s'', Feeds ρ s' ((restK r k ks (d + 1)).map keA) b' s'' → Feeds ρ s ((restK r k ks 0).map keA) b' s'') ∧ (b = false → Feeds ρ s ((restK r k ks 0).map keA) false s') := fun b s' hf =>
          ⟨fun hb => by subst hb; exact ⟨hcan.2 s' hf, fun b' s'' h => hfe b' s'' (hf.app h)⟩, fun hb => by subst hb; exact hfe false s' (hf.cut _)⟩
        cases q with
        | nil =>
          have h2 := (hstep true s1 (by rw [elems_nil]; exact .nil _)).1 rfl
          (repeat (first | refine Spl.t rfl ?_ | refine Spl.f rfl ?_))
          exact ⟨(d + 1, s1), ⟨by simp only; omega, h2.1, h2.2⟩, by simp only; omega, ⟨some_iv (wrap_id _ (by omega) (by omega)), trivial⟩, (by repeat' (first | exact trivial | exact rfl | refine And.intro ?_ ?_)), ⟨rfl, trivial⟩, (by repeat' (first | exact trivial | exact rfl | refine And.intro ?_ ?_))⟩
        | node ks' e' =>
          have hb2 : (16 * k + d + 1) * 16 ^ r ≤ 2 ^ 58 := by
            refine Nat.le_trans (Nat.mul_le_mul_right (16 ^ r) (show 16 * k + d + 1 ≤ (k + 1) * 16 by omega)) ?_
            rw [Nat.mul_assoc, Nat.mul_comm 16, ← Nat.pow_succ]; exact hk
          have hwk := walk_c r (16 * k + d) (.node ks' e') (by omega) (hws _ (List.mem_of_getElem? hq)) rfl hb2 ρ hP hΛ s1 hcan.1
          rw [show uv (16 * k + d) = AV.d (.v (.int .u64 (orI .u64 (shlI .u64 (k : Int) ((4 : Nat) : Int)) (IntKind.u64.wrap (d : Int))))) from by rw [shl4 hk58 hlt]] at hwk
          (repeat (first | refine Spl.t rfl ?_ | refine Spl.f rfl ?_))
          refine Req.of (by decide) ?_
          (repeat (first | refine Spl.t rfl ?_ | refine Spl.f rfl ?_))
          refine OpJ.call hwk (fun _ _ => rfl) rfl rfl (Wk.cons rfl (Wk.nil _)) ?_
          rintro qv σ' ⟨b, s', hf, rfl, rfl⟩
          refine ⟨rfl, ?_⟩
          have h2 := hstep b s' hf
          cases b with
          | true =>
            have h3 := h2.1 rfl
            (repeat (first | refine Spl.t rfl ?_ | refine Spl.f rfl ?_))
            exact ⟨(d + 1, s'), ⟨by simp only; omega, h3.1, h3.2⟩, by simp only; omega, ⟨some_iv (wrap_id _ (by omega) (by omega)), trivial⟩, (by repeat' (first | exact trivial | exact rfl | refine And.intro ?_ ?_)), ⟨rfl, trivial⟩, (by repeat' (first | exact trivial | exact rfl | refine And.intro ?_ ?_))⟩
          | false =>
            (repeat (first | refine Spl.t rfl ?_ | refine Spl.f rfl ?_))
            exact FinP.of [(0, .res ρ s')] (Wk.cons rfl (Wk.nil _)) closed_res ⟨false, s', h2.2 rfl, rfl, rfl⟩
      · have he : d = 16 := by have := of_decide_eq_false h1; simp only at this; omega
        subst he
        (repeat (first | refine Spl.t rfl ?_ | refine Spl.f rfl ?_))
        exact FinP.of [(0, .res ρ s1)] (Wk.cons rfl (Wk.nil _)) closed_res ⟨true, s1, hfe true s1 (by rw [restK_end]; exact .nil _), rfl, rfl⟩
theorem closed_res' {pin : List Nat} {ρ : Res} {s : ρ.S} {r : AV} (h : r.open = true) : closedB pin r [(0, .res ρ s)] := by
  refine ⟨fun j hj => (by rw [has2_open h] at hj; cases hj), fun i e hi j hj => ?_⟩
  rw [look_cons] at hi
  by_cases h : i = 0
  · rw [if_pos h] at hi; cases hi; cases hj
  · rw [if_neg h] at hi; cases hi
attribute [local irreducible] elems
abbrev mapD (p : PT) (n : Int) : D := .ptr [p.d, .v (.int .i64 n)]
abbrev allF (p : PT) (n : Int) : AV := .d (.fn 302 [mapD p n])
theorem rep_fnD {γ : Ids} {H : HF} {f : FuncId} {cs : List AV} {ds : List D} {u : Value} (h : dAll cs = some ds) (r : Rep γ H (.fnp f cs) u) : Rep γ H (.d (.fn f ds)) u := by
  cases r with
  | fnp _ _ us hl hr =>
    obtain ⟨h1, h2⟩ := dAll_get h
    refine .d _ _ (.fn f ds us (by rw [hl, h1]) fun j x v hx hv => ?_)
    obtain ⟨a, ha, hd⟩ := h2 j x hx
    exact dOf_sound hd (hr j a v ha hv)
theorem All4_c (p : PT) (n : Int) : Cv 290 [mapv p n] (allF p n) := by
  refine Ct.of_vc Tryz.f290 Tryz.func290 rfl rfl fun w H B g0 => ?_
  exact FinP.pub 1 rfl rfl (FinP.view (fun _ _ _ => rep_fnD rfl) (FinP.open rfl rfl))
theorem all4_iter (p : PT) (n : Int) (hw : PT.wf 8 p) : Iter tab Tryz.prog 302 [.d (mapD p n)] ((elems 8 0 p).map keA) := by
  intro ρ hP hΛ s hc
  cases p with
  | nil =>
    have he : elems 8 0 PT.nil = [] := elems_nil 8 0
    rw [he] at hc ⊢
    refine Ct.of_vc Tryz.f302 Tryz.func302 rfl rfl fun w H B g0 => ?_
    (repeat (first | refine Spl.t rfl ?_ | refine Spl.f rfl ?_))
    exact FinP.of [(0, .res ρ s)] (Wk.cons rfl (Wk.nil _)) (closed_res' rfl) ⟨true, s, .nil _, rfl⟩
  | node ks e =>
    have hwk := walk_c 8 0 (.node ks e) (Nat.le_refl _) hw rfl (by decide) ρ hP hΛ s hc
    refine Ct.of_vc Tryz.f302 Tryz.func302 rfl rfl fun w H B g0 => ?_
    (repeat (first | refine Spl.t rfl ?_ | refine Spl.f rfl ?_))
    refine OpJ.call hwk (fun _ _ => rfl) rfl rfl (Wk.cons rfl (Wk.nil _)) ?_
    rintro qv σ' ⟨b, s', hf, rfl, rfl⟩
    refine ⟨rfl, ?_⟩
    exact FinP.of [(0, .res ρ s')] (Wk.cons rfl (Wk.nil _)) (closed_res' rfl) ⟨b, s', hf, rfl⟩
end Go.Proofs.E
end
section
open Go Go.Gv
attribute [local irreducible] Go.Gv.WJ Go.Gv.OpJ Go.Gv.QJ Go.Gv.Spl Go.Gv.Req Go.Gv.IdxP Go.Gv.RegP Go.Gv.FinP Go.Gv.CellP Go.Gv.CellsP Go.Gv.ArrP Go.Gv.ArrsP Go.Gv.DropP Go.Gv.ByteP Go.Gv.StoreP
set_option maxRecDepth 100000
namespace Go.Proofs.E
theorem elems_ne : ∀ (r k : Nat) (p : PT), PT.wf r p → p.isNil = false → elems r k p ≠ []
  | 0, k, p, hw, hn => by
    rcases hw with rfl | ⟨e, rfl⟩
    · cases hn
    · simp [elems, PT.ent]
  | r + 1, k, p, hw, hn => by
    rcases hw with rfl | ⟨ks, rfl, hl, hws, q, hq, hqn⟩
    · cases hn
    · intro h
      rw [elems, List.flatMap_eq_nil_iff] at h
      obtain ⟨d, hd⟩ := List.getElem?_of_mem hq
      have hlt : d < 16 := by rw [← hl]; exact (List.getElem?_eq_some_iff.1 hd).1
      have := h d (List.mem_range.2 hlt)
      rw [show (PT.node ks none).kids = ks from rfl, List.getD_eq_getElem?_getD, hd] at this
      exact elems_ne r _ q (hws q hq) hqn this
theorem restK_nil {r k : Nat} {ks : List PT} {d : Nat} (h : ∀ j, d ≤ j → j < 16 → ks.getD j .nil = .nil) : restK r k ks d = [] := by
  rw [restK, List.flatMap_eq_nil_iff]
  intro j hj
  have hj := List.mem_range'_1.1 hj
  rw [h j hj.1 (by omega), elems_nil]
theorem restK_from (r k : Nat) (ks : List PT) : ∀ d, d ≤ 16 → ∃ A, restK r k ks 0 = A ++ restK r k ks d
  | 0, _ => ⟨[], rfl⟩
  | d + 1, h => by
    obtain ⟨A, hA⟩ := restK_from r k ks d (by omega)
    exact ⟨A ++ elems r (16 * k + d) (ks.getD d .nil), by rw [hA, restK_step r k ks (by omega), List.append_assoc]⟩
theorem last_kid {r k : Nat} {ks : List PT} {d : Nat} {q : PT} (hq : ks[d]? = some q) (hd : d < 16) (hw : PT.wf r q) (hn : q.isNil = false) (h : ∀ j, d < j → j < 16 → ks.getD j .nil = .nil) :
    (elems (r + 1) k (.node ks none)).getLast? = (elems r (16 * k + d) q).getLast? := by
  obtain ⟨A, hA⟩ := restK_from r k ks d (by omega)
  rw [restK_all, hA, restK_step r k ks hd, restK_nil (d := d + 1) (fun j h1 h2 => h j (by omega) h2), List.append_nil, List.getD_eq_getElem?_getD, hq, Option.getD_some]
  rw [List.getLast?_append]
  have := elems_ne r (16 * k + d) q hw hn
  cases hx : (elems r (16 * k + d) q).getLast? with
  | none => exact absurd (List.getLast?_eq_none_iff.1 hx) this
  | some x => rfl
def lastM (p : PT) : ID := match (elems 8 0 p).getLast? with
  | some x => namK x.1
  | none => ⟨0, 0⟩
theorem lastM_some {p : PT} {x : KE} (h : (elems 8 0 p).getLast? = some x) : lastM p = namK x.1 := by unfold lastM; rw [h]
theorem lastM_none {p : PT} (h : elems 8 0 p = []) : lastM p = ⟨0, 0⟩ := by unfold lastM; rw [h]; rfl
theorem elems_leaf (k : Nat) (e : EN) : elems 0 k (.node nils (some e)) = [(k, e)] := rfl
attribute [local irreducible] elems
set_option maxHeartbeats 2000000 in
theorem Last4_c (p : PT) (n : Int) (hw : PT.wf 8 p) : Cv 236 [mapv p n] (idv (lastM p)) := by
  cases p with
  | nil =>
    have : lastM .nil = ⟨0, 0⟩ := lastM_none (elems_nil 8 0)
    rw [this]
    refine Ct.of_vc Tryz.f236 Tryz.func236 rfl rfl fun w H B g0 => ?_
    (repeat (first | refine Spl.t rfl ?_ | refine Spl.f rfl ?_))
    exact FinP.open rfl rfl
  | node ks0 e0 =>
    refine Ct.of_vc Tryz.f236 Tryz.func236 rfl rfl fun w H B g0 => ?_
    (repeat (first | refine Spl.t rfl ?_ | refine Spl.f rfl ?_))
    refine WJ.loopK (V := Nat × PT × Nat) (fun v => [(12, iv v.1), (3, .d v.2.1.d), (4, uv v.2.2)]) (fun _ => []) [] (fun v => 8 - v.1) (fun v => v.1 ≤ 8 ∧ PT.wf (8 - v.1) v.2.1 ∧ v.2.1.isNil = false ∧ v.2.2 < 16 ^ v.1 ∧ (elems (8 - v.1) v.2.2 v.2.1).getLast? = (elems 8 0 (.node ks0 e0)).getLast?) (0, .node ks0 e0, 0) ⟨Nat.zero_le _, hw, rfl, (show (0 : Nat) < 16 ^ 0 by decide), rfl⟩ (by repeat' (first | exact trivial | exact rfl | refine And.intro ?_ ?_)) (by repeat' (first | exact trivial | exact rfl | refine And.intro ?_ ?_)) ?_
    rintro ⟨i, q, k⟩ ⟨hi, hq, hqn, hk, hla⟩
    simp only at hi hq hqn hk hla
    refine Spl.of (fun h1 => ?_) (fun h1 => ?_)
    · have hlt : i < 8 := by have := of_decide_eq_true h1; simp only at this; omega
      obtain ⟨r, hr⟩ : ∃ r, 8 - i = r + 1 := ⟨7 - i, by omega⟩
      have e2 : 8 - (i + 1) = r := by omega
      rw [hr] at hq hla
      rcases hq with rfl | ⟨ks, rfl, hl, hws, hex⟩
      · cases hqn
      · have hk58 : k < 2 ^ 58 := Nat.lt_of_lt_of_le hk (Nat.le_trans (Nat.pow_le_pow_right (by decide) (show i ≤ 8 by omega)) (by decide))
        (repeat (first | refine Spl.t rfl ?_ | refine Spl.f rfl ?_))
        refine WJ.loopK (V := Nat) (fun d => [(5, iv d)]) (fun _ => []) [] (fun d => d) (fun d => d < 16 ∧ ∀ j, d < j → j < 16 → ks.getD j .nil = .nil) 15 ⟨by decide, fun j h1 h2 => by omega⟩ (by repeat' (first | exact trivial | exact rfl | refine And.intro ?_ ?_)) (by repeat' (first | exact trivial | exact rfl | refine And.intro ?_ ?_)) ?_
        intro d ⟨hd, hnil⟩
        obtain ⟨q', hq'⟩ : ∃ q', ks[d]? = some q' := ⟨ks[d]'(by omega), by simp⟩
        have hgd : ks.getD d .nil = q' := by rw [List.getD_eq_getElem?_getD, hq']; rfl
        refine Req.of ⟨by omega, by omega⟩ ?_
        refine DropP.of _ (node_kid hq') (Nat.succ_le_succ (Nat.zero_le _)) ?_
        cases q' with
        | nil =>
          have hd0 : d ≠ 0 := fun e => by
            subst e
            obtain ⟨q, hq, hqn⟩ := hex
            obtain ⟨j, hj⟩ := List.getElem?_of_mem hq
            have hj16 : j < 16 := by rw [← hl]; exact (List.getElem?_eq_some_iff.1 hj).1
            have : ks.getD j .nil = .nil := by
              by_cases h0 : j = 0
              · subst h0; exact hgd
              · exact hnil j (by omega) hj16
            rw [List.getD_eq_getElem?_getD, hj] at this
            simp only [Option.getD_some] at this
            subst this; cases hqn
          (repeat (first | refine Spl.t rfl ?_ | refine Spl.f rfl ?_))
          exact ⟨d - 1, ⟨by omega, fun j h1 h2 => by
            by_cases h : j = d
            · subst h; exact hgd
            · exact hnil j (by omega) h2⟩, by omega, ⟨some_iv (by rw [wrap_id _ (by omega) (by omega)]; omega), trivial⟩, (by repeat' (first | exact trivial | exact rfl | refine And.intro ?_ ?_)), (by repeat' (first | exact trivial | exact rfl | refine And.intro ?_ ?_)), (by repeat' (first | exact trivial | exact rfl | refine And.intro ?_ ?_))⟩
        | node ks' e' =>
          have hwq := hws _ (List.mem_of_getElem? hq')
          have hs := shl4 hk58 hd
          (repeat (first | refine Spl.t rfl ?_ | refine Spl.f rfl ?_))
          refine Req.of ⟨by omega, by omega⟩ ?_
          refine DropP.of _ (node_kid hq') (Nat.succ_le_succ (Nat.zero_le _)) ?_
          refine Req.of (by decide) ?_
          refine ⟨(i + 1, .node ks' e', 16 * k + d), ⟨by simp only; omega, by simp only [e2]; exact hwq, rfl, ?_, ?_⟩, by simp only; omega, ⟨some_iv (wrap_id _ (by omega) (by omega)), rfl, congrArg (fun z : Int => some (AV.d (.v (.int .u64 z)))) hs, trivial⟩, (by repeat' (first | exact trivial | exact rfl | refine And.intro ?_ ?_)), (by repeat' (first | exact trivial | exact rfl | refine And.intro ?_ ?_)), (by repeat' (first | exact trivial | exact rfl | refine And.intro ?_ ?_))⟩
          · simp only; rw [Nat.pow_succ]; omega
          · simp only [e2]; rw [← hla]; exact (last_kid hq' hd hwq rfl hnil).symm
    · have he : i = 8 := by have := of_decide_eq_false h1; simp only at this; omega
      subst he
      rcases hq with rfl | ⟨e, rfl⟩
      · cases hqn
      · have hl : lastM (.node ks0 e0) = namK k := by
          have h0 : elems (8 - 8) k (.node nils (some e)) = [(k, e)] := elems_leaf k e
          rw [h0] at hla
          exact lastM_some hla.symm
        rw [hl]
        (repeat (first | refine Spl.t rfl ?_ | refine Spl.f rfl ?_))
        refine OpJ.callV (named_c k (Nat.lt_of_lt_of_le hk (by decide))) (fun _ _ => rfl) rfl rfl rfl ?_
        exact FinP.open rfl rfl
end Go.Proofs.E
end
section
open Go Go.Gv
set_option maxRecDepth 100000
namespace Go.Proofs.E
abbrev IE := ID × EN
def insM (a : ID) (e : EN) : List IE → List IE
  | [] => [(a, e)]
  | y :: l => if lessI a y.1 = true then (a, e) :: y :: l else if a = y.1 then (a, e) :: l else y :: insM a e l
def upM (M : List IE) : Prop := M.Pairwise fun x y => lessI x.1 y.1 = true
/-- A map's part and count stand for a row. -/
structure isM (p : PT) (n : Int) (M : List IE) : Prop where
  wf : PT.wf 8 p
  el : elems 8 0 p = M.map fun x => (keyI x.1, x.2)
  len : n = M.length
  may : ∀ x, x ∈ M → mayI x.1 = true
  up : upM M
theorem key_lt {a b : ID} (ha : mayI a = true) (hb : mayI b = true) : keyI a < keyI b ↔ lessI a b = true := by
  obtain ⟨a1, a2, a3, a4⟩ := mayI_iff ha
  obtain ⟨b1, b2, b3, b4⟩ := mayI_iff hb
  unfold keyI lessI
  simp only [decide_eq_true_eq]
  omega
theorem key_inj {a b : ID} (ha : mayI a = true) (hb : mayI b = true) (h : keyI a = keyI b) : a = b := by
  obtain ⟨a1, a2, a3, a4⟩ := mayI_iff ha
  obtain ⟨b1, b2, b3, b4⟩ := mayI_iff hb
  unfold keyI at h
  cases a; cases b
  simp only [ID.mk.injEq] at *
  omega
theorem namK_key {a : ID} (ha : mayI a = true) : namK (keyI a) = a := by
  obtain ⟨a1, a2, a3, a4⟩ := mayI_iff ha
  unfold namK keyI
  cases a
  simp only [ID.mk.injEq] at *
  omega
theorem isM_nil : isM .nil 0 [] := ⟨wf_nil 8, elems_nil 8 0, rfl, fun _ h => by simp at h, List.Pairwise.nil⟩
theorem insK_map {a : ID} {e : EN} (ha : mayI a = true) : ∀ (M : List IE), (∀ x, x ∈ M → mayI x.1 = true) → insK (keyI a) e (M.map fun x => (keyI x.1, x.2)) = (insM a e M).map fun x => (keyI x.1, x.2)
  | [], _ => rfl
  | y :: l, h => by
    have hy := h y (by simp)
    rw [List.map_cons, insK, insM]
    by_cases h1 : lessI a y.1 = true
    · rw [if_pos h1, if_pos ((key_lt ha hy).2 h1)]; rfl
    · rw [if_neg h1, if_neg (fun x => h1 ((key_lt ha hy).1 x))]
      by_cases h2 : a = y.1
      · rw [if_pos h2, if_pos (by rw [h2])]; rfl
      · rw [if_neg h2, if_neg (fun x => h2 (key_inj ha hy x)), insK_map ha l fun x hx => h x (List.mem_cons_of_mem _ hx)]; rfl
theorem mem_insM {a : ID} {e : EN} {x : IE} : ∀ {M : List IE}, x ∈ insM a e M → x = (a, e) ∨ x ∈ M
  | [], h => by simp [insM] at h; exact .inl h
  | y :: l, h => by
    rw [insM] at h
    split at h
    · rcases List.mem_cons.1 h with h | h
      · exact .inl h
      · exact .inr h
    · split at h
      · rcases List.mem_cons.1 h with h | h
        · exact .inl h
        · exact .inr (List.mem_cons_of_mem _ h)
      · rcases List.mem_cons.1 h with h | h
        · exact .inr (by rw [h]; simp)
        · rcases mem_insM h with h | h
          · exact .inl h
          · exact .inr (List.mem_cons_of_mem _ h)
theorem less_tot {a b : ID} (h1 : ¬ lessI a b = true) (h2 : a ≠ b) : lessI b a = true := by
  unfold lessI at *
  simp only [decide_eq_true_eq] at *
  have : ¬ (a.c = b.c ∧ a.s = b.s) := fun ⟨x, y⟩ => h2 (by cases a; cases b; simp_all)
  omega
theorem less_tr {a b c : ID} (h1 : lessI a b = true) (h2 : lessI b c = true) : lessI a c = true := by
  unfold lessI at *
  simp only [decide_eq_true_eq] at *
  omega
theorem less_irr (a : ID) : ¬ lessI a a = true := by unfold lessI; simp
theorem up_insM {a : ID} {e : EN} : ∀ {M : List IE}, upM M → upM (insM a e M)
  | [], _ => List.pairwise_singleton _ _
  | y :: l, h => by
    obtain ⟨h1, h2⟩ := List.pairwise_cons.1 h
    rw [insM]
    split
    · next hl =>
      refine List.pairwise_cons.2 ⟨fun x hx => ?_, h⟩
      rcases List.mem_cons.1 hx with rfl | hx
      · exact hl
      · exact less_tr hl (h1 x hx)
    · next hl =>
      split
      · next he => exact List.pairwise_cons.2 ⟨fun x hx => by show lessI a x.1 = true; rw [he]; exact h1 x hx, h2⟩
      · next he =>
        refine List.pairwise_cons.2 ⟨fun x hx => ?_, up_insM h2⟩
        rcases mem_insM hx with rfl | hx
        · exact less_tot hl he
        · exact h1 x hx
theorem alook_up {a : ID} : ∀ {M : List IE}, (∀ x, x ∈ M → lessI a x.1 = true) → alook a M = none
  | [], _ => rfl
  | y :: l, h => by
    have h1 := h y (by simp)
    rw [alook, if_neg (fun e => less_irr y.1 (by rw [e] at h1; exact h1)), alook_up fun x hx => h x (List.mem_cons_of_mem _ hx)]
theorem len_insM {a : ID} {e : EN} : ∀ {M : List IE}, upM M → (insM a e M).length = if (alook a M).isSome = true then M.length else M.length + 1
  | [], _ => rfl
  | y :: l, h => by
    obtain ⟨h1, h2⟩ := List.pairwise_cons.1 h
    rw [insM]
    split
    · next hl =>
      have hn : alook a (y :: l) = none := alook_up fun x hx => by
        rcases List.mem_cons.1 hx with rfl | hx
        · exact hl
        · exact less_tr hl (h1 x hx)
      rw [hn]; rfl
    · next hl =>
      split
      · next he => rw [alook, if_pos he]; rfl
      · next he =>
        rw [alook, if_neg he, List.length_cons, len_insM h2]
        split <;> simp
theorem alook_insM {a b : ID} {e : EN} : ∀ {M : List IE}, upM M → alook b (insM a e M) = if b = a then some e else alook b M
  | [], _ => by rw [insM, alook]; simp [alook]
  | y :: l, h => by
    obtain ⟨h1, h2⟩ := List.pairwise_cons.1 h
    rw [insM]
    split
    · next hl => rw [alook]
    · next hl =>
      split
      · next he =>
        rw [alook, alook, ← he]
        by_cases hb : b = a
        · rw [if_pos hb, if_pos hb]
        · rw [if_neg hb, if_neg hb, if_neg hb]
      · next he =>
        rw [alook, alook, alook_insM h2]
        by_cases hb : b = y.1
        · rw [if_pos hb, if_pos hb, if_neg (fun e => he (e.symm.trans hb))]
        · rw [if_neg hb, if_neg hb]
theorem alook_key {a : ID} (ha : mayI a = true) : ∀ (M : List IE), (∀ x, x ∈ M → mayI x.1 = true) → alook (keyI a) (M.map fun x => (keyI x.1, x.2)) = alook a M
  | [], _ => rfl
  | y :: l, h => by
    rw [List.map_cons, alook, alook, alook_key ha l fun x hx => h x (List.mem_cons_of_mem _ hx)]
    by_cases hb : a = y.1
    · rw [if_pos hb, if_pos (by rw [hb])]
    · rw [if_neg hb, if_neg fun e => hb (key_inj ha (h y (by simp)) e)]
theorem getM_is {p : PT} {n : Int} {M : List IE} (h : isM p n M) (a : ID) : getM p a = alook a M := by
  unfold getM
  by_cases ha : mayI a = true
  · rw [if_pos ha, elems_get 8 0 (keyI a) p h.wf (by simp) (by have := keyI_lt ha; simp; omega), h.el, alook_key ha M h.may]
  · rw [if_neg ha, alook_none fun x hx e => ha (by rw [e]; exact h.may x hx)]
theorem put_is {p : PT} {n : Int} {M : List IE} (h : isM p n M) {a : ID} (ha : mayI a = true) (e : EN) : isM (PT.put 8 (keyI a) e p) (if (getM p a).isSome = true then n else n + 1) (insM a e M) := by
  refine ⟨put_wf 8 _ e p h.wf, ?_, ?_, fun x hx => ?_, up_insM h.up⟩
  · rw [elems_put 8 0 (keyI a) e p h.wf (by simp) (by have := keyI_lt ha; simp; omega), h.el, insK_map ha M h.may]
  · rw [len_insM h.up, getM_is h, h.len]
    split <;> simp
  · rcases mem_insM hx with rfl | hx
    · exact ha
    · exact h.may x hx
def lastI (M : List IE) : ID := match M.getLast? with
  | some x => x.1
  | none => ⟨0, 0⟩
theorem last_is {p : PT} {n : Int} {M : List IE} (h : isM p n M) : lastM p = lastI M := by
  unfold lastI
  cases hx : M.getLast? with
  | none =>
    have : M = [] := List.getLast?_eq_none_iff.1 hx
    subst this
    exact lastM_none h.el
  | some x =>
    have h1 : (elems 8 0 p).getLast? = some (keyI x.1, x.2) := by rw [h.el, List.getLast?_map, hx]; rfl
    rw [lastM_some h1]
    exact namK_key (h.may x (List.mem_of_getLast? hx))
abbrev ieA (x : IE) : List AV := [idv x.1, env x.2]
theorem all_is {p : PT} {n : Int} {M : List IE} (h : isM p n M) : (elems 8 0 p).map keA = M.map ieA := by
  rw [h.el, List.map_map]
  refine List.map_congr_left fun x hx => ?_
  show [idv (namK (keyI x.1)), env x.2] = _
  rw [namK_key (h.may x hx)]
end Go.Proofs.E
end
section
open Go Go.Gv
attribute [local irreducible] Go.Gv.WJ Go.Gv.OpJ Go.Gv.QJ Go.Gv.Spl Go.Gv.Req Go.Gv.IdxP Go.Gv.RegP Go.Gv.FinP Go.Gv.CellP Go.Gv.CellsP Go.Gv.ArrP Go.Gv.ArrsP Go.Gv.DropP Go.Gv.ByteP Go.Gv.StoreP
set_option maxRecDepth 100000
namespace Go.Proofs.E
/-- An element. -/
structure EL where
  id : ID
  ch : Int
  dead : Bool
  deriving DecidableEq
abbrev elv (e : EL) : AV := .agg [iv e.id.c, iv e.id.s, cv' e.ch, bv e.dead]
/-- A row. -/
inductive TR where
  | nil
  | node (l : TR) (e : EL) (r : TR)
namespace TR
def one (e : EL) : Nat := match e.dead with | true => 0 | false => 1
def size : TR → Nat
  | .nil => 0
  | .node l _ r => l.size + 1 + r.size
def live : TR → Nat
  | .nil => 0
  | .node l e r => l.live + one e + r.live
def deep : TR → Nat
  | .nil => 0
  | .node l _ r => Nat.max l.deep r.deep + 1
def els : TR → List EL
  | .nil => []
  | .node l e r => l.els ++ e :: r.els
def d : TR → D
  | .nil => .v (.pointer none)
  | .node l e r => .ptr [l.d, r.d, .v (.int .i64 e.id.c), .v (.int .i64 e.id.s), .v (.int .i32 e.ch), .v (.bool e.dead),
      .v (.int .i64 ((l.size + 1 + r.size : Nat) : Int)), .v (.int .i64 ((l.live + one e + r.live : Nat) : Int)), .v (.int .i64 ((Nat.max l.deep r.deep + 1 : Nat) : Int))]
def left : TR → TR
  | .nil => .nil
  | .node l _ _ => l
def right : TR → TR
  | .nil => .nil
  | .node _ _ r => r
def wt (t : TR) : Nat := t.size + 1
def turnL (l : TR) (e : EL) : TR → TR
  | .nil => .node l e .nil
  | .node rl re rr => match Nat.blt rl.wt (2 * rr.wt) with
    | true => .node (.node l e rl) re rr
    | false => match rl with
      | .nil => .node l e (.node .nil re rr)
      | .node ml me mr => .node (.node l e ml) me (.node mr re rr)
def turnR (l : TR) (e : EL) (r : TR) : TR := match l with
  | .nil => .node .nil e r
  | .node ll le lr => match Nat.blt lr.wt (2 * ll.wt) with
    | true => .node ll le (.node lr e r)
    | false => match lr with
      | .nil => .node (.node ll le .nil) e r
      | .node ml me mr => .node (.node ll le ml) me (.node mr e r)
def bal (l : TR) (e : EL) (r : TR) : TR := match Nat.blt (3 * l.wt) r.wt with
  | true => turnL l e r
  | false => match Nat.blt (3 * r.wt) l.wt with
    | true => turnR l e r
    | false => .node l e r
def ins : Nat → EL → TR → TR
  | _, e, .nil => .node .nil e .nil
  | i, e, .node l x r => match Nat.ble i l.size with
    | true => bal (ins i e l) x r
    | false => bal l x (ins (i - l.size - 1) e r)
def set : Nat → EL → TR → TR
  | _, _, .nil => .nil
  | i, e, .node l x r => match Nat.blt i l.size with
    | true => .node (set i e l) x r
    | false => match Nat.blt l.size i with
      | true => .node l x (set (i - l.size - 1) e r)
      | false => .node l e r
theorem els_len : ∀ t : TR, t.els.length = t.size
  | .nil => rfl
  | .node l e r => by rw [els, size, List.length_append, List.length_cons, els_len l, els_len r]; omega
theorem els_turnL (l : TR) (e : EL) (r : TR) : (turnL l e r).els = l.els ++ e :: r.els := by
  cases r with
  | nil => rfl
  | node rl re rr =>
    simp only [turnL]
    split
    · simp [els]
    · cases rl <;> simp [els]
theorem els_turnR (l : TR) (e : EL) (r : TR) : (turnR l e r).els = l.els ++ e :: r.els := by
  cases l with
  | nil => rfl
  | node ll le lr =>
    simp only [turnR]
    split
    · simp [els]
    · cases lr <;> simp [els]
theorem els_bal (l : TR) (e : EL) (r : TR) : (bal l e r).els = l.els ++ e :: r.els := by
  unfold bal
  split
  · exact els_turnL l e r
  · split
    · exact els_turnR l e r
    · rfl
theorem els_ins : ∀ (i : Nat) (e : EL) (t : TR), i ≤ t.size → (ins i e t).els = t.els.take i ++ e :: t.els.drop i
  | i, e, .nil, h => by
    have : i = 0 := by simpa [size] using h
    subst this; rfl
  | i, e, .node l x r, h => by
    have hl := els_len l
    simp only [size] at h
    simp only [ins]
    split
    · next hb =>
      have hi := Nat.le_of_ble_eq_true hb
      rw [els_bal, els_ins i e l hi, els, List.take_append_of_le_length (by omega), List.drop_append_of_le_length (by omega)]
      simp
    · next hb =>
      have hi : l.size < i := by
        rcases Nat.lt_or_ge l.size i with h | h
        · exact h
        · rw [Nat.ble_eq_true_of_le h] at hb; cases hb
      rw [els_bal, els_ins (i - l.size - 1) e r (by omega), els]
      obtain ⟨k, rfl⟩ : ∃ k, i = l.els.length + (k + 1) := ⟨i - l.size - 1, by omega⟩
      rw [List.take_length_add_append, List.drop_length_add_append, List.take_succ_cons, List.drop_succ_cons, show l.els.length + (k + 1) - l.size - 1 = k by omega]
      simp
theorem els_set : ∀ (i : Nat) (e : EL) (t : TR), i < t.size → (set i e t).els = t.els.set i e
  | i, e, .nil, h => by simp [size] at h
  | i, e, .node l x r, h => by
    have hl := els_len l
    simp only [size] at h
    simp only [set]
    split
    · next hb =>
      have hi : i < l.size := by simpa [Nat.blt_eq] using hb
      rw [els, els_set i e l hi, els, List.set_append_left _ _ (by omega)]
    · next hb =>
      have hi : ¬ i < l.size := fun h => by rw [show Nat.blt i l.size = true by simpa [Nat.blt_eq] using h] at hb; cases hb
      split
      · next hb2 =>
        have hi2 : l.size < i := by simpa [Nat.blt_eq] using hb2
        rw [els, els_set _ e r (by omega), els, List.set_append_right _ _ (by omega), hl]
        obtain ⟨k, rfl⟩ : ∃ k, i = l.size + (k + 1) := ⟨i - l.size - 1, by omega⟩
        rw [show l.size + (k + 1) - l.size - 1 = k by omega, show l.size + (k + 1) - l.size = k + 1 by omega, List.set_cons_succ]
      · next hb2 =>
        have hi2 : ¬ l.size < i := fun h => by rw [show Nat.blt l.size i = true by simpa [Nat.blt_eq] using h] at hb2; cases hb2
        have : i = l.size := by omega
        subst this
        rw [els, els, List.set_append_right _ _ (by omega), hl, Nat.sub_self, List.set_cons_zero]
theorem live_eq : ∀ t : TR, t.live = (t.els.filter fun e => !e.dead).length
  | .nil => rfl
  | .node l e r => by
    rw [live, els, List.filter_append, List.length_append, ← live_eq l, List.filter_cons, one]
    cases e.dead with
    | true => simp [live_eq r]
    | false => simp [live_eq r]; omega
theorem live_le (t : TR) : t.live ≤ t.size := by rw [live_eq, ← els_len]; exact List.length_filter_le _ _
theorem deep_le : ∀ t : TR, t.deep ≤ t.size
  | .nil => Nat.le_refl _
  | .node l e r => by
    have h1 := deep_le l
    have h2 := deep_le r
    have : Nat.max l.deep r.deep ≤ l.size + r.size := Nat.max_le.2 ⟨by omega, by omega⟩
    simp only [deep, size]; omega
end TR
theorem size_c (t : TR) : Cv 235 [.d t.d] (iv t.size) := by
  cases t with
  | nil =>
    refine Ct.of_vc Tryz.f235 Tryz.func235 rfl rfl fun w H B g0 => ?_
    (repeat (first | refine Spl.t rfl ?_ | refine Spl.f rfl ?_))
    exact FinP.open rfl rfl
  | node l e r =>
    refine Ct.of_vc Tryz.f235 Tryz.func235 rfl rfl fun w H B g0 => ?_
    (repeat (first | refine Spl.t rfl ?_ | refine Spl.f rfl ?_))
    exact FinP.open rfl rfl
theorem live_c (t : TR) : Cv 263 [.d t.d] (iv t.live) := by
  cases t with
  | nil =>
    refine Ct.of_vc Tryz.f263 Tryz.func263 rfl rfl fun w H B g0 => ?_
    (repeat (first | refine Spl.t rfl ?_ | refine Spl.f rfl ?_))
    exact FinP.open rfl rfl
  | node l e r =>
    refine Ct.of_vc Tryz.f263 Tryz.func263 rfl rfl fun w H B g0 => ?_
    (repeat (first | refine Spl.t rfl ?_ | refine Spl.f rfl ?_))
    exact FinP.open rfl rfl
theorem deep_c (t : TR) : Cv 314 [.d t.d] (iv t.deep) := by
  cases t with
  | nil =>
    refine Ct.of_vc Tryz.f314 Tryz.func314 rfl rfl fun w H B g0 => ?_
    (repeat (first | refine Spl.t rfl ?_ | refine Spl.f rfl ?_))
    exact FinP.open rfl rfl
  | node l e r =>
    refine Ct.of_vc Tryz.f314 Tryz.func314 rfl rfl fun w H B g0 => ?_
    (repeat (first | refine Spl.t rfl ?_ | refine Spl.f rfl ?_))
    exact FinP.open rfl rfl
theorem one_c (e : EL) : Cv 265 [elv e] (iv (TR.one e)) := by
  obtain ⟨a, c, b⟩ := e
  cases b with
  | true =>
    refine Ct.of_vc Tryz.f265 Tryz.func265 rfl rfl fun w H B g0 => ?_
    (repeat (first | refine Spl.t rfl ?_ | refine Spl.f rfl ?_))
    exact FinP.open rfl rfl
  | false =>
    refine Ct.of_vc Tryz.f265 Tryz.func265 rfl rfl fun w H B g0 => ?_
    (repeat (first | refine Spl.t rfl ?_ | refine Spl.f rfl ?_))
    exact FinP.open rfl rfl
theorem weight_c (t : TR) (h : t.size ≤ 1000000) : Cv 315 [.d t.d] (iv t.wt) := by
  refine Ct.of_vc Tryz.f315 Tryz.func315 rfl rfl fun w H B g0 => ?_
  refine OpJ.callV (size_c t) (fun _ _ => rfl) rfl rfl rfl ?_
  (repeat (first | refine Spl.t rfl ?_ | refine Spl.f rfl ?_))
  exact FinP.open rfl (congrArg iv (wrap_id _ (by omega) (by omega)))
end Go.Proofs.E
end
