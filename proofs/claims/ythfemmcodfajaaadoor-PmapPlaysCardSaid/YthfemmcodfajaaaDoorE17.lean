/- Maps of ids: numbers of ids, tries. -/
import Derived.Test.YthfemmcodfajaaaDoorE2
import Derived.Test.YthfemmcodfajaaaDoorG20
import Derived.Test.YthfemmcodfajaaaDoorGX
set_option linter.unusedVariables false
set_option linter.unusedSimpArgs false
open Go Go.Gv
attribute [local irreducible] Go.Gv.WJ Go.Gv.OpJ Go.Gv.QJ Go.Gv.Spl Go.Gv.Req Go.Gv.IdxP Go.Gv.RegP Go.Gv.FinP Go.Gv.QuietP Go.Gv.CellP Go.Gv.CellsP Go.Gv.ArrP Go.Gv.ArrsP Go.Gv.DropP Go.Gv.ByteP Go.Gv.StoreP
set_option maxRecDepth 100000
namespace Go.Proofs.E
abbrev uv (n : Nat) : AV := .d (.v (.int .u64 n))
abbrev cv' (n : Int) : AV := .d (.v (.int .i32 n))
/-- What is known of an id. -/
structure EN where
  a : ID
  ch : Int
  dead : Bool
  deriving DecidableEq
abbrev enD (e : EN) : List D := [.v (.int .i64 e.a.c), .v (.int .i64 e.a.s), .v (.int .i32 e.ch), .v (.bool e.dead)]
abbrev env (e : EN) : AV := .agg [iv e.a.c, iv e.a.s, cv' e.ch, bv e.dead]
def keyI (a : ID) : Nat := a.c.toNat * 1024 + a.s.toNat
def digK (k n : Nat) : Nat := k / 16 ^ (7 - n) % 16
def namK (k : Nat) : ID := ⟨(k / 1024 : Nat), (k % 1024 : Nat)⟩
theorem wrap_u64 (x : Int) (h : 0 ≤ x) (h' : x < 18446744073709551616) : IntKind.u64.wrap x = x := by
  simp only [IntKind.wrap, IntKind.signed, IntKind.bits]; simp; omega
theorem bv_nat (n : Nat) (h : n < 2 ^ 64) : BitVec.ofInt 64 (n : Int) = BitVec.ofNat 64 n := by
  apply BitVec.eq_of_toNat_eq
  simp [BitVec.toNat_ofInt]
theorem or_lo (a b i : Nat) (h : b < 2 ^ i) (h2 : a * 2 ^ i + b < 2 ^ 64) : (BitVec.ofInt 64 ((a * 2 ^ i : Nat) : Int) ||| BitVec.ofInt 64 (b : Int)).toNat = a * 2 ^ i + b := by
  rw [bv_nat _ (by omega), bv_nat _ (by omega)]
  rw [BitVec.toNat_or, BitVec.toNat_ofNat, BitVec.toNat_ofNat, Nat.mod_eq_of_lt (by omega), Nat.mod_eq_of_lt (by omega), Nat.mul_comm, ← Nat.two_pow_add_eq_or_of_lt h]
theorem and_lo (a i : Nat) (h : a < 2 ^ 64) (hi : 2 ^ i ≤ 2 ^ 64) : (BitVec.ofInt 64 (a : Int) &&& BitVec.ofInt 64 ((2 ^ i - 1 : Nat) : Int)).toNat = a % 2 ^ i := by
  rw [bv_nat _ h, bv_nat _ (by have := Nat.two_pow_pos i; omega)]
  rw [BitVec.toNat_and, BitVec.toNat_ofNat, BitVec.toNat_ofNat, Nat.mod_eq_of_lt h, Nat.mod_eq_of_lt (by have := Nat.two_pow_pos i; omega), Nat.and_two_pow_sub_one_eq_mod]
theorem keyI_lt {a : ID} (h : mayI a = true) : keyI a < 2 ^ 31 := by
  obtain ⟨a1, a2, a3, a4⟩ := mayI_iff h
  unfold keyI; omega
theorem shl_u (a m : Nat) (hm : m < 64) (h : a * 2 ^ m < 2 ^ 64) : shlI .u64 (a : Int) (m : Int) = ((a * 2 ^ m : Nat) : Int) := by
  unfold shlI
  have e : min ((m : Nat) : Int).toNat IntKind.u64.bits = m := by
    show min ((m : Nat) : Int).toNat 64 = m
    simp; omega
  rw [e]
  have e2 : (a : Int) * 2 ^ m = ((a * 2 ^ m : Nat) : Int) := by simp
  rw [e2, wrap_u64 _ (by omega) (by omega)]
theorem or_u (a b i : Nat) (h : b < 2 ^ i) (h2 : a * 2 ^ i + b < 2 ^ 64) : orI .u64 ((a * 2 ^ i : Nat) : Int) (b : Int) = ((a * 2 ^ i + b : Nat) : Int) := by
  unfold orI
  have := or_lo a b i h h2
  rw [show (BitVec.ofInt IntKind.u64.bits ((a * 2 ^ i : Nat) : Int) ||| BitVec.ofInt IntKind.u64.bits (b : Int)).toNat = a * 2 ^ i + b from this, wrap_u64 _ (by omega) (by omega)]
theorem and_u (a i : Nat) (h : a < 2 ^ 64) (hi : 2 ^ i ≤ 2 ^ 64) : andI .u64 (a : Int) ((2 ^ i - 1 : Nat) : Int) = ((a % 2 ^ i : Nat) : Int) := by
  unfold andI
  have := and_lo a i h hi
  have hl : a % 2 ^ i < 2 ^ i := Nat.mod_lt _ (Nat.two_pow_pos i)
  rw [show (BitVec.ofInt IntKind.u64.bits (a : Int) &&& BitVec.ofInt IntKind.u64.bits ((2 ^ i - 1 : Nat) : Int)).toNat = a % 2 ^ i from this, wrap_u64 _ (by omega) (by omega)]
theorem shr_u (k m : Nat) (hm : m < 64) : shrI .u64 (k : Int) (m : Int) = ((k / 2 ^ m : Nat) : Int) := by
  unfold shrI
  have e : min ((m : Nat) : Int).toNat IntKind.u64.bits = m := by
    show min ((m : Nat) : Int).toNat 64 = m
    simp; omega
  rw [e, Int.fdiv_eq_ediv_of_nonneg _ (Int.pow_nonneg (by decide))]
  simp
theorem key_eq {c s : Int} (h1 : 0 ≤ c) (h2 : c ≤ 1048576) (h3 : 0 ≤ s) (h4 : s ≤ 1000) : orI .u64 (shlI .u64 (IntKind.u64.wrap c) ((10 : Nat) : Int)) (IntKind.u64.wrap s) = ((c.toNat * 1024 + s.toNat : Nat) : Int) := by
  have e1 : IntKind.u64.wrap c = ((c.toNat : Nat) : Int) := by rw [wrap_u64 c h1 (by omega)]; omega
  have e2 : IntKind.u64.wrap s = ((s.toNat : Nat) : Int) := by rw [wrap_u64 s h3 (by omega)]; omega
  rw [e1, e2, shl_u _ _ (by decide) (by omega), or_u _ _ _ (by omega) (by omega)]
theorem key_c (a : ID) (h : mayI a = true) : Cv 52 [idv a] (uv (keyI a)) := by
  obtain ⟨a1, a2, a3, a4⟩ := mayI_iff h
  refine Ct.of_vc Tryd.f52 Tryd.func52 rfl rfl fun w H B g0 => ?_
  refine Req.of (by decide) ?_
  exact FinP.open rfl (congrArg (fun z : Int => AV.d (.v (.int .u64 z))) (key_eq (by omega) a2 (by omega) a4))
theorem pow_16 (m : Nat) : 2 ^ (4 * m) = 16 ^ m := by rw [Nat.pow_mul]
theorem digit_eq (k n : Nat) (hk : k < 2 ^ 63) (hn : n < 8) : IntKind.i64.wrap (andI .u64 (shrI .u64 (k : Int) (IntKind.i64.wrap (4 * IntKind.i64.wrap (7 - (n : Int))))) ((2 ^ 4 - 1 : Nat) : Int)) = ((digK k n : Nat) : Int) := by
  have e : IntKind.i64.wrap (4 * IntKind.i64.wrap (7 - (n : Int))) = ((4 * (7 - n) : Nat) : Int) := by
    rw [wrap_id (7 - (n : Int)) (by omega) (by omega), wrap_id _ (by omega) (by omega)]; omega
  have h1 := Nat.div_le_self k (2 ^ (4 * (7 - n)))
  rw [e, shr_u k _ (by omega), and_u _ 4 (by omega) (by decide), pow_16]
  unfold digK
  rw [wrap_id _ (by omega) (by omega)]
theorem digit_c (k n : Nat) (hk : k < 2 ^ 63) (hn : n < 8) : Cv 53 [uv k, iv n] (iv (digK k n)) := by
  refine Ct.of_vc Tryd.f53 Tryd.func53 rfl rfl fun w H B g0 => ?_
  refine Req.of (by rw [wrap_id (7 - (n : Int)) (by omega) (by omega), wrap_id _ (by omega) (by omega)]; omega) ?_
  exact FinP.open rfl (congrArg iv (digit_eq k n hk hn))
theorem agg2 {a b c d : Int} (h : a = c) (k : b = d) : AV.agg [iv a, iv b] = AV.agg [iv c, iv d] := by rw [h, k]
theorem named_c (k : Nat) (hk : k < 2 ^ 63) : Cv 67 [uv k] (idv (namK k)) := by
  have e1 : IntKind.i64.wrap (shrI .u64 (k : Int) ((10 : Nat) : Int)) = ((k / 1024 : Nat) : Int) := by
    rw [shr_u k 10 (by decide)]; exact wrap_id _ (by omega) (by omega)
  have e2 : IntKind.i64.wrap (andI .u64 (k : Int) ((2 ^ 10 - 1 : Nat) : Int)) = ((k % 1024 : Nat) : Int) := by
    rw [and_u k 10 (by omega) (by decide)]; exact wrap_id _ (by omega) (by omega)
  refine Ct.of_vc Tryd.f67 Tryd.func67 rfl rfl fun w H B g0 => ?_
  refine Req.of (by decide) ?_
  exact FinP.open rfl (agg2 e1 e2)
end Go.Proofs.E
