/- Texts of operations: numbers in base 16. -/
import Derived.Test.YthfemmcodfajaaaDoorE3
import Derived.Test.YthfemmcodfajaaaDoorG18
import Derived.WalkKit
import Derived.Laws.Bits64b
set_option linter.unusedVariables false
set_option linter.unusedSimpArgs false
open Go Go.Gv Go.RowKit
attribute [local irreducible] Go.Gv.WJ Go.Gv.OpJ Go.Gv.QJ Go.Gv.Spl Go.Gv.Req Go.Gv.IdxP Go.Gv.RegP Go.Gv.FinP Go.Gv.QuietP Go.Gv.CellP Go.Gv.CellsP Go.Gv.ArrP Go.Gv.ArrsP Go.Gv.DropP Go.Gv.ByteP Go.Gv.StoreP
set_option maxRecDepth 100000
namespace Go.Proofs.E
theorem tz_key : IntKind.u64.wrap (bits BinOp.and IntKind.u64 16 (IntKind.u64.wrap (-16)) * 285870213051353865) / 288230376151711744 = 15 := by decide +kernel
theorem tz64_calls (w : World) (h : w.cell? ⟨3, 15, none⟩ = some (.int .u8 4)) : Calls Tryd.prog 101 #[.int .u64 16] w fun e w' => e = .returned (.int .i64 4) ∧ w' = w := by
  go_enter Tryd.func101, Tryd.ntmps101
  go_wp2_with (simp only [tz_key])
  go_ret
  exact ⟨rfl, rfl⟩
abbrev u64v (n : Int) : AV := .d (.v (.int .u64 n))
abbrev u8v (n : Int) : AV := .d (.v (.int .u8 n))
theorem tab_cell {w : World} (h : tab.p w) : w.cell? ⟨3, 15, none⟩ = some (.int .u8 4) := by
  have := tab_tz h
  unfold Lib.TabIs World.var? at this
  rw [gTz] at this
  simp only [Option.bind_some] at this
  unfold World.cell?
  split at this
  · next cs t z hh =>
    simp only [Option.some.injEq] at this
    subst this
    rw [hh]
    rfl
  · cases this
theorem Tz64_c : Cv 101 [u64v 16] (iv 4) :=
  Ct.of_calls_scalars [.int .u64 16] rfl fun w hw => (tz64_calls w (tab_cell hw)).mono fun _ _ ⟨he, hw⟩ => ⟨he, by rw [hw]; exact Keeps.refl _ _⟩
theorem Tz_c : Cv 90 [u64v 16] (iv 4) := by
  refine Ct.of_vc Tryd.f90 Tryd.func90 rfl rfl fun w H B g0 => ?_
  (repeat (first | refine Spl.t rfl ?_ | refine Spl.f rfl ?_))
  refine OpJ.callV Tz64_c (fun _ _ => rfl) rfl rfl rfl ?_
  exact FinP.open rfl rfl
theorem Pow2_c : Cv 89 [iv 16] (bv true) := by
  refine Ct.of_vc Tryd.f89 Tryd.func89 rfl rfl fun w H B g0 => ?_
  exact FinP.open rfl (congrArg bv (by decide +kernel))
def hx (n : Nat) : UInt8 := if n < 10 then UInt8.ofNat (48 + n) else UInt8.ofNat (87 + n)
def hexD (n : Nat) : List UInt8 := if n < 16 then [hx n] else hexD (n / 16) ++ [hx (n % 16)]
def cellsB (acc : List UInt8) : List AV := (List.replicate (65 - acc.length) (0 : UInt8) ++ acc).map fun b => u8v b.toNat
theorem some_u64 {a b : Int} (h : a = b) : some (u64v a) = some (u64v b) := by rw [h]
theorem and15 (m : Nat) (h : m < 16 ^ 16) : IntKind.u64.wrap ((BitVec.ofInt 64 (m : Int) &&& BitVec.ofInt 64 (IntKind.u64.wrap (IntKind.u64.wrap 16 - 1))).toNat : Int) = ((m % 16 : Nat) : Int) := by
  have e1 : IntKind.u64.wrap (IntKind.u64.wrap 16 - 1) = ((15 : Nat) : Int) := by decide
  rw [e1]
  have e2 : (BitVec.ofInt 64 (m : Int)).toNat = m := by simp; omega
  have e3 : (BitVec.ofInt 64 ((15 : Nat) : Int)).toNat = 15 := by decide
  rw [BitVec.toNat_and, e2, e3, show (15 : Nat) = 2 ^ 4 - 1 from rfl, Nat.and_two_pow_sub_one_eq_mod, IntKind.wrap_u64]
  omega
def digs : List UInt8 := [48, 49, 50, 51, 52, 53, 54, 55, 56, 57, 97, 98, 99, 100, 101, 102, 103, 104, 105, 106, 107, 108, 109, 110, 111, 112, 113, 114, 115, 116, 117, 118, 119, 120, 121, 122]
theorem digs_at : ∀ i : Fin 16, digs[i.val]? = some (hx i.val) := by decide
theorem cellsB_len (acc : List UInt8) (h : acc.length ≤ 65) : (cellsB acc).length = 65 := by simp [cellsB]; omega
theorem setL_cellsB (acc : List UInt8) (d : UInt8) (h : acc.length < 65) : setL (cellsB acc) (65 - acc.length - 1) [u8v d.toNat] = cellsB (d :: acc) := by
  unfold cellsB
  simp only [setL, List.length_cons]
  rw [show 65 - acc.length = (65 - (acc.length + 1)) + 1 by omega, List.replicate_succ']
  simp only [Nat.add_sub_cancel]
  rw [List.map_append, List.map_append, List.map_append, List.append_assoc, List.set_append_right _ _ (by simp)]
  simp
theorem FormatBits_c (N : Nat) (hN : N < 16 ^ 16) : Cv 76 [.d (.v (.slice none 0 0)), u64v N, iv 16, bv false, bv false] (.tup [.d (.v (.slice none 0 0)), sv (hexD N)]) := by
  refine Ct.of_vc Tryd.f76 Tryd.func76 rfl rfl fun w H B g0 => ?_
  (repeat (first | refine Spl.t rfl ?_ | refine Spl.f rfl ?_))
  refine OpJ.callV Pow2_c (fun _ _ => rfl) rfl rfl rfl ?_
  (repeat (first | refine Spl.t rfl ?_ | refine Spl.f rfl ?_))
  refine OpJ.callV Tz_c (fun _ _ => rfl) rfl rfl rfl ?_
  refine WJ.loopF (V := Nat × List UInt8) (fun v => [(1, u64v v.1), (13, iv ((65 - v.2.length : Nat) : Int))]) (fun v => [(12, .cells (cellsB v.2))]) (fun v => v.1)
    (fun v => ∃ k, v.1 < 16 ^ k ∧ 0 < k ∧ k + v.2.length = 16 ∧ hexD v.1 ++ v.2 = hexD N) (N, []) ⟨16, hN, by omega, rfl, by simp⟩ (by repeat' (first | exact trivial | exact rfl | refine And.intro ?_ ?_)) (by repeat' (first | exact trivial | exact rfl | refine And.intro ?_ ?_)) ?_
  rintro ⟨m, acc⟩ ⟨k, hm, hk, hl, hI⟩
  have hmm : m < 16 ^ 16 := Nat.lt_of_lt_of_le hm (Nat.pow_le_pow_right (by omega) (by simp only at hl; omega))
  have hi : IntKind.i64.wrap (((65 - acc.length : Nat) : Int) - 1) = ((65 - acc.length - 1 : Nat) : Int) := by simp only at hl; rw [wrap_id _ (by omega) (by omega)]; omega
  have h16 := and15 m hmm
  simp only at hm hl hI
  have hD : hexD m = if m < 16 then [hx m] else hexD (m / 16) ++ [hx (m % 16)] := by rw [hexD]
  refine Spl.of (fun h => ?_) (fun h => ?_)
  · have hge : 16 ≤ m := by have := of_decide_eq_true h; rw [show IntKind.u64.wrap 16 = 16 by decide] at this; simp only at this; omega
    have hk2 : 2 ≤ k := by
      rcases Nat.lt_or_ge k 2 with h2 | h2
      · obtain rfl : k = 1 := by omega
        simp at hm; omega
      · exact h2
    (repeat (first | refine Spl.t rfl ?_ | refine Spl.f rfl ?_))
    refine ByteP.of (hx (m % 16)) (Int.le_trans (show (0 : Int) ≤ ((m % 16 : Nat) : Int) by omega) (Int.le_of_eq h16.symm)) ((congrArg (fun z : Int => digs[z.toNat]?) h16).trans (digs_at ⟨m % 16, by omega⟩)) ?_
    refine Req.of (by rw [hi]; omega) ?_
    refine Req.of (by
      rw [cellsB_len acc (by omega), hi]
      show 0 + _ * 1 + 1 ≤ 65; omega) ?_
    refine Req.of (by decide) ?_
    refine ⟨(m / 16, hx (m % 16) :: acc), ⟨k - 1, ?_, by omega, by simp; omega, ?_⟩, by simp only; omega, ⟨some_u64 ?_, some_iv ?_, trivial⟩, (by repeat' (first | exact trivial | exact rfl | refine And.intro ?_ ?_)), ⟨?_, trivial⟩⟩
    · simp only
      rw [Nat.div_lt_iff_lt_mul (by decide)]
      have : 16 ^ k = 16 ^ (k - 1) * 16 := by rw [← Nat.pow_succ]; congr 1; omega
      omega
    · rw [hD, if_neg (by omega)] at hI
      simpa using hI
    · show Int.fdiv (m : Int) (2 ^ min (IntKind.u64.wrap 4).toNat IntKind.u64.bits) = _
      rw [show (2 : Int) ^ min (IntKind.u64.wrap 4).toNat IntKind.u64.bits = 16 by decide, Int.fdiv_eq_ediv_of_nonneg _ (by decide)]
      simp
    · exact hi.trans (by simp; omega)
    · show some (Ent.cells (setL (cellsB acc) (0 + (IntKind.i64.wrap (((65 - acc.length : Nat) : Int) - 1)).toNat * 1) [u8v (hx (m % 16)).toNat])) = some (Ent.cells (cellsB (hx (m % 16) :: acc)))
      rw [hi, show 0 + ((65 - acc.length - 1 : Nat) : Int).toNat * 1 = 65 - acc.length - 1 by omega, setL_cellsB acc _ (by omega)]
  · have hlt : m < 16 := by have := of_decide_eq_false h; rw [show IntKind.u64.wrap 16 = 16 by decide] at this; simp only at this; omega
    rw [hD, if_pos hlt] at hI
    (repeat (first | refine Spl.t rfl ?_ | refine Spl.f rfl ?_))
    refine ByteP.of (hx m) (by simp only; omega) (digs_at ⟨m, hlt⟩) ?_
    refine Req.of (by simp only; rw [hi]; omega) ?_
    refine Req.of (by
      simp only
      rw [cellsB_len acc (by omega), hi]
      show 0 + _ * 1 + 1 ≤ 65; omega) ?_
    (repeat (first | refine Spl.t rfl ?_ | refine Spl.f rfl ?_))
    refine OpJ.shift (SJ.pub 12 (e := .cells (cellsB (hx m :: acc))) (p := .c ((List.replicate (65 - (acc.length + 1)) (0 : UInt8) ++ (hx m :: acc)).map bD)) ?_ ?_) ?_
    · show some (Ent.cells (setL (cellsB acc) (0 + (IntKind.i64.wrap (((65 - acc.length : Nat) : Int) - 1)).toNat * 1) [u8v (hx m).toNat])) = _
      rw [hi, show 0 + ((65 - acc.length - 1 : Nat) : Int).toNat * 1 = 65 - acc.length - 1 by omega, setL_cellsB acc _ (by omega)]
    · unfold pubOf cellsB
      simp only
      rw [show (fun b : UInt8 => u8v (b.toNat : Int)) = fun b => AV.d (bD b) from rfl, dAll_map]
      rfl
    refine OpJ.qu (O.sliceP (xs := (hx m :: acc).map fun b => [bD b]) rfl rfl rfl rfl rfl (by rw [hi]; omega) (by rw [hi]; omega) (by decide) (by show List.length _ = 65 * 1; simp; omega) (by decide) ?_) rfl ?_
    · show List.drop (IntKind.i64.wrap (((65 - acc.length : Nat) : Int) - 1)).toNat (List.take (65 : Int).toNat (chunkL 1 65 (List.map bD (List.replicate (65 - (acc.length + 1)) 0 ++ hx m :: acc)))) = _
      have hlen : (List.map bD (List.replicate (65 - (acc.length + 1)) 0 ++ hx m :: acc)).length = 65 := by simp; omega
      have := chunkL_one (List.map bD (List.replicate (65 - (acc.length + 1)) 0 ++ hx m :: acc))
      rw [hlen] at this
      rw [this, hi, List.take_of_length_le (by rw [List.length_map, hlen]; decide), List.map_map, List.map_append, show ((65 - acc.length - 1 : Nat) : Int).toNat = 65 - (acc.length + 1) by omega, List.drop_append_of_le_length (by simp), List.drop_of_length_le (by simp)]
      rfl
    refine OpJ.qu (O.bytesStr (ns := (hx m :: acc).map fun b => (b.toNat : Int)) rfl rfl (bytesOf_map _) rfl rfl rfl) rfl ?_
    refine FinP.open rfl ?_
    show AV.tup [_, AV.d (D.v (Value.string (strOf _)))] = _
    rw [strOf_map, ← hI]
    rfl
theorem FormatInt16i_c (N : Nat) (hN : N < 16 ^ 15) : Cv 65 [iv N, iv 16] (sv (hexD N)) := by
  refine Ct.of_vc Tryd.f65 Tryd.func65 rfl rfl fun w H B g0 => ?_
  (repeat (first | refine Spl.t rfl ?_ | refine Spl.f rfl ?_))
  have hb : Cv 76 [.d (.v (.slice none 0 0)), u64v (IntKind.u64.wrap (N : Int)), iv 16, bv (decide ((N : Int) < 0)), bv false] (.tup [.d (.v (.slice none 0 0)), sv (hexD N)]) := by
    rw [show IntKind.u64.wrap (N : Int) = N by rw [IntKind.wrap_u64]; omega, show decide ((N : Int) < 0) = false from decide_eq_false (by omega)]
    exact FormatBits_c N (by omega)
  refine OpJ.callV hb (fun _ _ => rfl) rfl rfl rfl ?_
  exact FinP.open rfl rfl
theorem FormatInt16_c (N : Nat) (hN : N < 16 ^ 15) : Cv 43 [iv N, iv 16] (sv (hexD N)) := by
  refine Ct.of_vc Tryd.f43 Tryd.func43 rfl rfl fun w H B g0 => ?_
  refine OpJ.callV (FormatInt16i_c N hN) (fun _ _ => rfl) rfl rfl rfl ?_
  exact FinP.open rfl rfl
end Go.Proofs.E
