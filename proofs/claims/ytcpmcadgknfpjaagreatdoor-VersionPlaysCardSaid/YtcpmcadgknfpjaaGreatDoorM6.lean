/- Laws that the claim's text stands on: A builder of text: a rune more; Rows as trees: going over them; their text; Rows as trees: the law's example; The law PtreeStays; Rows as trees: balance; what the reference says of a row; A replica's elements: what is there, where; A replica's elements: operations are applied; A replica's elements: the law's example; the law CoreFull; What the reference says of a row: letters, text, rank; Is a row the document's?; The reference's state of operations: has, wrong, place; The reference: why an operation can't be applied; Private rows cut; append of a private row's end onto data that has no room; The reference: the row of operations; The law PmapPlays. -/
import Derived.Test.YtcpmcadgknfpjaaGreatDoorM1
import Derived.Test.YtcpmcadgknfpjaaGreatDoorM2
import Derived.Test.YtcpmcadgknfpjaaGreatDoorM3
import Derived.Test.YtcpmcadgknfpjaaGreatDoorDShelf
import Derived.Test.YtcpmcadgknfpjaaGreatDoorM4
import Derived.Test.YtcpmcadgknfpjaaGreatDoorM5
import Derived.Lib.RuneBytes
set_option linter.unusedVariables false
set_option linter.unusedSimpArgs false
section
open Go Go.Gv
attribute [local irreducible] Go.Gv.WJ Go.Gv.OpJ Go.Gv.QJ Go.Gv.Spl Go.Gv.Req Go.Gv.IdxP Go.Gv.RegP Go.Gv.FinP Go.Gv.CellP Go.Gv.CellsP Go.Gv.ArrP Go.Gv.ArrsP Go.Gv.DropP Go.Gv.ByteP Go.Gv.StoreP
set_option maxRecDepth 100000
namespace Go.Proofs.E
abbrev Du (n : Int) : List D := [.v (.int .u8 n)]
def shr6 (r : Int) (k : Nat) : Int := r / 2 ^ k
theorem wrap_u32 (x : Int) (h : 0 ≤ x) (h' : x < 4294967296) : IntKind.u32.wrap x = x := by
  simp only [IntKind.wrap, IntKind.signed, IntKind.bits]; simp; omega
theorem wrap_u32n (x : Int) (h : -2147483648 ≤ x) (h' : x < 0) : IntKind.u32.wrap x = x + 4294967296 := by
  simp only [IntKind.wrap, IntKind.signed, IntKind.bits]; simp; omega
theorem wrap_u8' (x : Int) : IntKind.u8.wrap x = x % 256 := by
  simp only [IntKind.wrap, IntKind.signed, IntKind.bits]; simp
theorem or192 : ∀ k : Fin 32, orI .u8 192 (k.val : Int) = 192 + k.val := by decide
theorem or224 : ∀ k : Fin 16, orI .u8 224 (k.val : Int) = 224 + k.val := by decide
theorem or240 : ∀ k : Fin 8, orI .u8 240 (k.val : Int) = 240 + k.val := by decide
theorem or128 : ∀ k : Fin 64, orI .u8 128 (k.val : Int) = 128 + k.val := by decide
theorem and63 : ∀ k : Fin 256, andI .u8 (k.val : Int) 63 = ((k.val % 64 : Nat) : Int) := by decide +kernel
theorem shr_i32 (r : Int) (k : Nat) (h0 : 0 ≤ r) (hk : k < 32) : shrI .i32 r ((k : Nat) : Int) = r / 2 ^ k := by
  unfold shrI
  have e : min ((k : Nat) : Int).toNat IntKind.i32.bits = k := by
    show min ((k : Nat) : Int).toNat 32 = k
    simp; omega
  rw [e, Int.fdiv_eq_ediv_of_nonneg _ (Int.pow_nonneg (by decide))]
theorem lead (b : Int) (m : Nat) (r : Int) (k : Nat) (hor : ∀ j : Fin m, orI .u8 b (j.val : Int) = b + j.val) (h0 : 0 ≤ r) (hr : r ≤ 2147483647) (hk : k < 32) (hm : m ≤ 256) (h : r / 2 ^ k < m) : orI .u8 b (IntKind.u8.wrap (shrI .i32 r ((k : Nat) : Int))) = b + r / 2 ^ k := by
  have h1 : 0 ≤ r / 2 ^ k := Int.ediv_nonneg h0 (Int.pow_nonneg (by decide))
  rw [shr_i32 r k h0 hk, wrap_u8', Int.emod_eq_of_lt h1 (by omega)]
  have := hor ⟨(r / 2 ^ k).toNat, by omega⟩
  simp only at this
  rw [Int.toNat_of_nonneg h1] at this
  exact this
theorem tail6 (r : Int) (h0 : 0 ≤ r) : orI .u8 128 (andI .u8 (IntKind.u8.wrap r) 63) = 128 + r % 64 := by
  have h1 := and63 ⟨(r % 256).toNat, by omega⟩
  simp only at h1
  rw [Int.toNat_of_nonneg (by omega)] at h1
  rw [wrap_u8', h1]
  have h2 := or128 ⟨(r % 256).toNat % 64, by omega⟩
  simp only at h2
  rw [h2]; omega
theorem tailk (r : Int) (k : Nat) (h0 : 0 ≤ r) (hr : r ≤ 2147483647) (hk : k < 32) : orI .u8 128 (andI .u8 (IntKind.u8.wrap (shrI .i32 r ((k : Nat) : Int))) 63) = 128 + r / 2 ^ k % 64 := by
  have h1 : 0 ≤ r / 2 ^ k := Int.ediv_nonneg h0 (Int.pow_nonneg (by decide))
  have h2 : r / 2 ^ k ≤ r := Int.ediv_le_self _ h0
  rw [shr_i32 r k h0 hk, tail6 _ h1]
abbrev rowB (xs : List Int) : Ent := .arrT 5 1 (xs.map Du)
theorem rowB_app (xs ys : List Int) : Ent.arrT 5 1 (xs.map Du ++ ys.map Du) = rowB (xs ++ ys) := by rw [rowB, List.map_append]
theorem lenB {xs : List Int} {n : Nat} (h : xs.length = n) : (xs.map Du).length = n := by rw [List.length_map]; exact h
theorem appNon_c (n : Nat) (xs : List Int) (r : Int) (hr0 : -2147483648 ≤ r) (hr1 : r ≤ 2147483647) (hn : xs.length = n) (hl : n ≤ 900000000) (hna : ¬ (0 ≤ r ∧ r ≤ 127)) :
    Ct tab Tryz.prog 168 [.arr 1000 1 n, cv' r] [(1000, rowB xs)] (fun q σ' => q = .arr 1000 1 (n + (Lib.encodeRuneZ r).length) ∧ σ' = [(1000, rowB (xs ++ Lib.encodeRuneZ r))]) := by
  have hu : IntKind.u32.wrap r = if r < 0 then r + 4294967296 else r := by
    split
    · exact wrap_u32n r hr0 (by assumption)
    · exact wrap_u32 r (by omega) (by omega)
  have a2 : 0 ≤ r → orI .u8 128 (andI .u8 (IntKind.u8.wrap r) 63) = 128 + r % 64 := tail6 r
  have a6 : 0 ≤ r → orI .u8 128 (andI .u8 (IntKind.u8.wrap (shrI .i32 r 6)) 63) = 128 + r / 64 % 64 := fun h => tailk r 6 h hr1 (by decide)
  have a12 : 0 ≤ r → orI .u8 128 (andI .u8 (IntKind.u8.wrap (shrI .i32 r 12)) 63) = 128 + r / 4096 % 64 := fun h => tailk r 12 h hr1 (by decide)
  have three : ((2048 ≤ r ∧ r < 55296) ∨ (57343 < r ∧ r ≤ 65535)) → orI .u8 224 (IntKind.u8.wrap (shrI .i32 r 12)) = 224 + r / 4096 := fun h => lead 224 16 r 12 or224 (by omega) hr1 (by decide) (by decide) (by omega)
  have bad : r < 0 ∨ (55296 ≤ r ∧ r ≤ 57343) ∨ 1114111 < r → Lib.encodeRuneZ r = [239, 191, 189] := Lib.encodeRuneZ_bad
  refine Ct.of_vc Tryz.f168 Tryz.func168 rfl rfl fun w H B g0 => ?_
  refine Spl.of (fun h => ?_) (fun h => ?_)
  · have h := of_decide_eq_true h
    rw [hu] at h
    have hr : 128 ≤ r ∧ r ≤ 2047 := by split at h <;> omega
    have e := Lib.encodeRuneZ_two hr.1 hr.2
    have a1 : orI .u8 192 (IntKind.u8.wrap (shrI .i32 r 6)) = 192 + r / 64 := lead 192 32 r 6 or192 (by omega) hr1 (by decide) (by decide) (by omega)
    have a2 := a2 (by omega)
    (repeat (first | refine Spl.t rfl ?_ | refine Spl.f rfl ?_))
    refine Req.of (by decide) ?_
    (refine O.appT rfl rfl rfl rfl rfl rfl rfl rfl (lenB hn) (show n + 2 ≤ 1000000000 by omega) ?_)
    (refine FinP.priv [(1000, rowB (xs ++ Lib.encodeRuneZ r))] (Wk.cons ?_ (Wk.nil _)) rfl ⟨?_, rfl⟩)
    · rw [e]; show some (Ent.arrT _ 1 (xs.map Du ++ [Du _, Du _])) = _; rw [a1, a2]; exact congrArg some (rowB_app xs [_, _])
    · rw [e]; rfl
  · have h := of_decide_eq_false h
    rw [hu] at h
    refine Spl.of (fun h2 => ?_) (fun h2 => ?_)
    · have h2o := h2
      have h2 := of_decide_eq_true h2
      rw [hu] at h2
      (repeat (first | refine Spl.t rfl ?_ | refine Spl.f rfl ?_))
      refine Spl.t h2o ?_
      have hr : (2048 ≤ r ∧ r < 55296) ∨ (57343 < r ∧ r ≤ 65535) := by split at h <;> split at h2 <;> omega
      (have e := Lib.encodeRuneZ_three hr; have a1 := three hr; have a2 := a2 (by omega); have a6 := a6 (by omega); (repeat (first | refine Spl.t rfl ?_ | refine Spl.f rfl ?_)); refine Req.of (by decide) ?_; refine Req.of (by decide) ?_; (refine O.appT rfl rfl rfl rfl rfl rfl rfl rfl (lenB hn) (show n + 3 ≤ 1000000000 by omega) ?_); (refine FinP.priv [(1000, rowB (xs ++ Lib.encodeRuneZ r))] (Wk.cons ?_ (Wk.nil _)) rfl ⟨?_, rfl⟩); (rw [e]; show some (Ent.arrT _ 1 (xs.map Du ++ [Du _, Du _, Du _])) = _; rw [a1, a2, a6]; exact congrArg some (rowB_app xs [_, _, _])); (rw [e]; rfl))
    · have h2 := of_decide_eq_false h2
      rw [hu] at h2
      refine Spl.of (fun h3 => ?_) (fun h3 => ?_)
      · have h3 := of_decide_eq_true h3
        rw [hu] at h3
        (repeat (first | refine Spl.t rfl ?_ | refine Spl.f rfl ?_))
        refine Spl.of (fun h4 => ?_) (fun h4 => ?_)
        · have h4 := of_decide_eq_true h4
          rw [hu] at h4
          have hr : (2048 ≤ r ∧ r < 55296) ∨ (57343 < r ∧ r ≤ 65535) := by split at h <;> split at h2 <;> split at h3 <;> split at h4 <;> omega
          (have e := Lib.encodeRuneZ_three hr; have a1 := three hr; have a2 := a2 (by omega); have a6 := a6 (by omega); (repeat (first | refine Spl.t rfl ?_ | refine Spl.f rfl ?_)); refine Req.of (by decide) ?_; refine Req.of (by decide) ?_; (refine O.appT rfl rfl rfl rfl rfl rfl rfl rfl (lenB hn) (show n + 3 ≤ 1000000000 by omega) ?_); (refine FinP.priv [(1000, rowB (xs ++ Lib.encodeRuneZ r))] (Wk.cons ?_ (Wk.nil _)) rfl ⟨?_, rfl⟩); (rw [e]; show some (Ent.arrT _ 1 (xs.map Du ++ [Du _, Du _, Du _])) = _; rw [a1, a2, a6]; exact congrArg some (rowB_app xs [_, _, _])); (rw [e]; rfl))
        · have h4 := of_decide_eq_false h4
          rw [hu] at h4
          refine Spl.of (fun h5 => ?_) (fun h5 => ?_)
          · have h5 := of_decide_eq_true h5
            rw [hu] at h5
            (repeat (first | refine Spl.t rfl ?_ | refine Spl.f rfl ?_))
            refine Spl.of (fun h6 => ?_) (fun h6 => ?_)
            · have h6 := of_decide_eq_true h6
              rw [hu] at h6
              have hr : 65536 ≤ r ∧ r ≤ 1114111 := by split at h5 <;> split at h6 <;> omega
              have e := Lib.encodeRuneZ_four hr.1 hr.2
              have a1 : orI .u8 240 (IntKind.u8.wrap (shrI .i32 r 18)) = 240 + r / 262144 := lead 240 8 r 18 or240 (by omega) hr1 (by decide) (by decide) (by omega)
              have a2 := a2 (by omega)
              have a6 := a6 (by omega)
              have a12 := a12 (by omega)
              (repeat (first | refine Spl.t rfl ?_ | refine Spl.f rfl ?_))
              refine Req.of (by decide) ?_
              refine Req.of (by decide) ?_
              refine Req.of (by decide) ?_
              (refine O.appT rfl rfl rfl rfl rfl rfl rfl rfl (lenB hn) (show n + 4 ≤ 1000000000 by omega) ?_)
              (refine FinP.priv [(1000, rowB (xs ++ Lib.encodeRuneZ r))] (Wk.cons ?_ (Wk.nil _)) rfl ⟨?_, rfl⟩)
              · rw [e]; show some (Ent.arrT _ 1 (xs.map Du ++ [Du _, Du _, Du _, Du _])) = _; rw [a1, a2, a6, a12]; exact congrArg some (rowB_app xs [_, _, _, _])
              · rw [e]; rfl
            · have h6 := of_decide_eq_false h6
              rw [hu] at h6
              (have e := bad (by omega); (repeat (first | refine Spl.t rfl ?_ | refine Spl.f rfl ?_)); (refine O.appT rfl rfl rfl rfl rfl rfl rfl rfl (lenB hn) (show n + 3 ≤ 1000000000 by omega) ?_); (refine FinP.priv [(1000, rowB (xs ++ Lib.encodeRuneZ r))] (Wk.cons ?_ (Wk.nil _)) rfl ⟨?_, rfl⟩); (rw [e]; show some (Ent.arrT _ 1 (xs.map Du ++ [Du _, Du _, Du _])) = _; exact congrArg some (rowB_app xs [_, _, _])); (rw [e]; rfl))
          · have h5 := of_decide_eq_false h5
            rw [hu] at h5
            exfalso; split at h5 <;> split at h4 <;> omega
      · have h3 := of_decide_eq_false h3
        rw [hu] at h3
        (repeat (first | refine Spl.t rfl ?_ | refine Spl.f rfl ?_))
        have hs : 55296 ≤ r ∧ r ≤ 57343 := by split at h2 <;> split at h3 <;> omega
        refine Spl.f (decide_eq_false (by rw [hu]; split <;> omega)) ?_
        (have e := bad (by omega); (repeat (first | refine Spl.t rfl ?_ | refine Spl.f rfl ?_)); (refine O.appT rfl rfl rfl rfl rfl rfl rfl rfl (lenB hn) (show n + 3 ≤ 1000000000 by omega) ?_); (refine FinP.priv [(1000, rowB (xs ++ Lib.encodeRuneZ r))] (Wk.cons ?_ (Wk.nil _)) rfl ⟨?_, rfl⟩); (rw [e]; show some (Ent.arrT _ 1 (xs.map Du ++ [Du _, Du _, Du _])) = _; exact congrArg some (rowB_app xs [_, _, _])); (rw [e]; rfl))
theorem apRune_c (n : Nat) (xs : List Int) (r : Int) (hr0 : -2147483648 ≤ r) (hr1 : r ≤ 2147483647) (hn : xs.length = n) (hl : n ≤ 900000000) :
    Ct tab Tryz.prog 151 [.arr 1000 1 n, cv' r] [(1000, rowB xs)] (fun q σ' => q = .arr 1000 1 (n + (Lib.encodeRuneZ r).length) ∧ σ' = [(1000, rowB (xs ++ Lib.encodeRuneZ r))]) := by
  refine Ct.of_vc Tryz.f151 Tryz.func151 rfl rfl fun w H B g0 => ?_
  refine Spl.of (fun h => ?_) (fun h => ?_)
  · have h := of_decide_eq_true h
    have hr : 0 ≤ r ∧ r ≤ 127 := by
      by_cases h2 : r < 0
      · rw [wrap_u32n r hr0 h2] at h; omega
      · rw [wrap_u32 r (by omega) (by omega)] at h; omega
    have e := Lib.encodeRuneZ_one hr.1 hr.2
    have a1 : IntKind.u8.wrap r = r := by rw [wrap_u8', Int.emod_eq_of_lt hr.1 (by omega)]
    (repeat (first | refine Spl.t rfl ?_ | refine Spl.f rfl ?_))
    (refine O.appT rfl rfl rfl rfl rfl rfl rfl rfl (lenB hn) (show n + 1 ≤ 1000000000 by omega) ?_)
    (refine FinP.priv [(1000, rowB (xs ++ Lib.encodeRuneZ r))] (Wk.cons ?_ (Wk.nil _)) rfl ⟨?_, rfl⟩)
    · rw [e]; show some (Ent.arrT _ 1 (xs.map Du ++ [Du _])) = _; rw [a1]; exact congrArg some (rowB_app xs [_])
    · rw [e]; rfl
  · have h := of_decide_eq_false h
    have hr : ¬ (0 ≤ r ∧ r ≤ 127) := fun h2 => by rw [wrap_u32 r (by omega) (by omega)] at h; omega
    (repeat (first | refine Spl.t rfl ?_ | refine Spl.f rfl ?_))
    refine OpJ.callD [1000] (appNon_c n xs r hr0 hr1 hn hl hr) (fun _ _ => rfl) rfl rfl (Wk.cons rfl (Wk.nil _)) ?_
    rintro q σ' ⟨rfl, rfl⟩
    refine ⟨rfl, ?_⟩
    exact FinP.priv [(1000, rowB (xs ++ Lib.encodeRuneZ r))] (Wk.cons rfl (Wk.nil _)) rfl ⟨rfl, rfl⟩
/-- A builder: new, or holding bytes. -/
abbrev bld0 : Sg := [(3, .cellsT 194 [.d (.v (.pointer none)), .d (.v (.slice none 0 0))])]
abbrev bldE : Sg := [(3, .cells [.box 3 0, .d (.v (.slice none 0 0))])]
abbrev bldS (xs : List Int) : Sg := [(3, .cells [.box 3 0, .arr 1000 1 xs.length]), (1000, rowB xs)]
theorem copy0_c : Ct tab Tryz.prog 150 [.box 3 0] bld0 (fun q σ' => q = .tup [] ∧ σ' = bldE) := by
  refine Ct.of_vc Tryz.f150 Tryz.func150 rfl rfl fun w H B g0 => ?_
  refine OpJ.qu (O.load1T rfl rfl rfl rfl rfl) rfl ?_
  (repeat (first | refine Spl.t rfl ?_ | refine Spl.f rfl ?_))
  refine OpJ.qu (O.toUnsafe rfl rfl rfl rfl rfl (show (2 : Nat) ≠ 0 by decide) (show 0 < 2 by decide)) rfl ?_
  refine OpJ.qu (O.noEscape rfl rfl rfl rfl rfl rfl) rfl ?_
  refine OpJ.qu (O.fromUnsafe rfl rfl rfl rfl rfl (by show liesAt Tryz.prog Tryz.prog.depth 194 (2 / Tryz.prog.cellsOf 194) 0 194 1 = true; kernel_rfl)) rfl ?_
  refine OpJ.shift (SJ.untype 3 rfl) (eff_sound ?_)
  exact FinP.priv bldE (Wk.cons rfl (Wk.nil _)) rfl ⟨rfl, rfl⟩
theorem copyS_c (xs : List Int) : Ct tab Tryz.prog 150 [.box 3 0] (bldS xs) (fun q σ' => q = .tup [] ∧ σ' = bldS xs) := by
  refine Ct.of_vc Tryz.f150 Tryz.func150 rfl rfl fun w H B g0 => ?_
  (repeat (first | refine Spl.t rfl ?_ | refine Spl.f rfl ?_))
  refine OpJ.qu (O.neSame rfl rfl rfl rfl) rfl ?_
  (repeat (first | refine Spl.t rfl ?_ | refine Spl.f rfl ?_))
  exact FinP.priv (bldS xs) (Wk.cons rfl (Wk.cons rfl (Wk.nil _))) rfl ⟨rfl, rfl⟩
end Go.Proofs.E
end
section
open Go Go.Gv
attribute [local irreducible] Go.Gv.WJ Go.Gv.OpJ Go.Gv.QJ Go.Gv.Spl Go.Gv.Req Go.Gv.IdxP Go.Gv.RegP Go.Gv.FinP Go.Gv.CellP Go.Gv.CellsP Go.Gv.ArrP Go.Gv.ArrsP Go.Gv.DropP Go.Gv.ByteP Go.Gv.StoreP
set_option maxRecDepth 100000
namespace Go.Proofs.E
theorem wl (r : Int) (n : Nat) (hn : n ≤ 900000000) : AV.tup [iv (Lib.encodeRuneZ r).length, .d (.v .nilIface)] = AV.tup [iv (IntKind.i64.wrap (((n + (Lib.encodeRuneZ r).length : Nat) : Int) - (n : Int))), .d (.v .nilIface)] := by
  have h := Lib.encodeRuneZ_length r
  rw [wrap_id _ (by omega) (by omega), show ((n + (Lib.encodeRuneZ r).length : Nat) : Int) - (n : Int) = ((Lib.encodeRuneZ r).length : Int) by omega]
theorem rune0_c (r : Int) (hr0 : -2147483648 ≤ r) (hr1 : r ≤ 2147483647) : Ct tab Tryz.prog 104 [.box 3 0, cv' r] bld0 (fun q σ' => q = .tup [iv (Lib.encodeRuneZ r).length, .d (.v .nilIface)] ∧ σ' = bldS (Lib.encodeRuneZ r)) := by
  refine Ct.of_wv Tryz.f104 Tryz.func104 rfl rfl fun w H B g0 => ?_
  try refine WJ.cut ?_
  (first | refine Sq.go ?_ | refine vL_nil (Sq.go ?_) | skip)
  try refine WJ.cut ?_
  refine OpJ.call copy0_c (fun _ _ => rfl) rfl rfl (Wk.cons rfl (Wk.nil _)) ?_
  rintro q σ' ⟨rfl, rfl⟩
  refine ⟨rfl, ?_⟩
  (first | refine Sq.go ?_ | refine vL_nil (Sq.go ?_) | skip)
  try refine WJ.cut ?_
  (first | refine Sq.go ?_ | refine vL_nil (Sq.go ?_) | skip)
  try refine WJ.cut ?_
  refine OpJ.shift (SJ.nilArrT 1000 18 1 5 rfl rfl) ?_
  refine OpJ.callD [1000] (apRune_c 0 [] r hr0 hr1 rfl (by decide)) (fun _ _ => rfl) rfl rfl (Wk.cons rfl (Wk.nil _)) ?_
  rintro q σ' ⟨rfl, rfl⟩
  refine ⟨rfl, ?_⟩
  (first | refine Sq.go ?_ | refine vL_nil (Sq.go ?_) | skip)
  try refine vc_sound _ _ _ _ ?_
  refine FinP.priv (bldS (Lib.encodeRuneZ r)) (Wk.cons ?_ (Wk.cons rfl (Wk.nil _))) rfl ⟨?_, rfl⟩
  · rw [Nat.zero_add]; rfl
  · have e := wl r 0 (by decide)
    rw [Nat.zero_add] at e ⊢
    rw [e]; rfl
theorem runeS_c (xs : List Int) (r : Int) (hr0 : -2147483648 ≤ r) (hr1 : r ≤ 2147483647) (hl : xs.length ≤ 900000000) : Ct tab Tryz.prog 104 [.box 3 0, cv' r] (bldS xs) (fun q σ' => q = .tup [iv (Lib.encodeRuneZ r).length, .d (.v .nilIface)] ∧ σ' = bldS (xs ++ Lib.encodeRuneZ r)) := by
  refine Ct.of_wv Tryz.f104 Tryz.func104 rfl rfl fun w H B g0 => ?_
  try refine WJ.cut ?_
  (first | refine Sq.go ?_ | refine vL_nil (Sq.go ?_) | skip)
  try refine WJ.cut ?_
  refine OpJ.call (copyS_c xs) (fun _ _ => rfl) rfl rfl (Wk.cons rfl (Wk.cons rfl (Wk.nil _))) ?_
  rintro q σ' ⟨rfl, rfl⟩
  refine ⟨rfl, ?_⟩
  (first | refine Sq.go ?_ | refine vL_nil (Sq.go ?_) | skip)
  try refine WJ.cut ?_
  (first | refine Sq.go ?_ | refine vL_nil (Sq.go ?_) | skip)
  try refine WJ.cut ?_
  refine OpJ.callD [1000] (apRune_c xs.length xs r hr0 hr1 rfl hl) (fun _ _ => rfl) rfl rfl (Wk.cons rfl (Wk.nil _)) ?_
  rintro q σ' ⟨rfl, rfl⟩
  refine ⟨rfl, ?_⟩
  (first | refine Sq.go ?_ | refine vL_nil (Sq.go ?_) | skip)
  try refine vc_sound _ _ _ _ ?_
  refine FinP.priv (bldS (xs ++ Lib.encodeRuneZ r)) (Wk.cons ?_ (Wk.cons rfl (Wk.nil _))) rfl ⟨?_, rfl⟩
  · rw [List.length_append]; rfl
  · rw [wl r xs.length hl]; rfl
def byt (xs : List Int) : List UInt8 := xs.map fun n => UInt8.ofNat n.toNat
theorem bytesOf_du : ∀ xs : List Int, bytesOf (xs.map Du) = some xs
  | [] => rfl
  | x :: xs => by rw [List.map_cons, bytesOf, bytesOf_du xs]
theorem str0_c : Ct tab Tryz.prog 105 [.box 3 0] bld0 (fun q σ' => q = sv [] ∧ σ' = []) := by
  refine Ct.of_vc Tryz.f105 Tryz.func105 rfl rfl fun w H B g0 => ?_
  refine RegP.mix 10 rfl (by decide +kernel) ?_
  refine QuietP.of (O.load1T rfl rfl rfl rfl rfl) ?_
  refine QuietP.of (O.sliceDataNil rfl) ?_
  refine QuietP.of (O.load1T rfl rfl rfl rfl rfl) ?_
  (repeat' (refine And.intro ?_ ?_))
  refine OpJ.qu (O.unsafeStrNil rfl rfl) rfl ?_
  exact FinP.open rfl ⟨rfl, rfl⟩
theorem strS_c (xs : List Int) (h0 : 0 < xs.length) (hl : xs.length ≤ 900000000) (hb : ∀ k, k ∈ xs → 0 ≤ k ∧ k < 256) : Ct tab Tryz.prog 105 [.box 3 0] (bldS xs) (fun q σ' => q = sv (byt xs) ∧ σ' = []) := by
  refine Ct.of_vc Tryz.f105 Tryz.func105 rfl rfl fun w H B g0 => ?_
  refine RegP.mix 10 rfl (by decide +kernel) ?_
  refine QuietP.of (O.sliceData rfl h0) ?_
  (repeat' (refine And.intro ?_ ?_))
  refine O.unsafeStr rfl rfl rfl (bytesOf_du xs) hb (by rw [List.length_map]) h0 (by omega) rfl rfl rfl ?_
  exact FinP.open rfl ⟨rfl, rfl⟩
/-- The elements of a part, each with its place. -/
def itsL : Nat → List EL → List (Nat × EL)
  | _, [] => []
  | n, e :: r => (n, e) :: itsL (n + 1) r
theorem itsL_app : ∀ (A B : List EL) (n : Nat), itsL n (A ++ B) = itsL n A ++ itsL (n + A.length) B
  | [], B, n => by simp [itsL]
  | e :: A, B, n => by
    rw [List.cons_append, itsL, itsL_app A B (n + 1), itsL, List.length_cons, List.cons_append, show n + 1 + A.length = n + (A.length + 1) by omega]
theorem itsL_len : ∀ (A : List EL) (n : Nat), (itsL n A).length = A.length
  | [], _ => rfl
  | e :: A, n => by rw [itsL, List.length_cons, itsL_len A, List.length_cons]
theorem itsL_get : ∀ (A : List EL) (n i : Nat), (itsL n A)[i]? = (A[i]?).map fun e => (n + i, e)
  | [], _, i => by simp [itsL]
  | e :: A, n, 0 => by simp [itsL]
  | e :: A, n, i + 1 => by rw [itsL, List.getElem?_cons_succ, List.getElem?_cons_succ, itsL_get A (n + 1) i]; congr 1; funext e; congr 1; omega
abbrev itA (x : Nat × EL) : List AV := [iv x.1, elv x.2]
theorem closed_resE {pin : List Nat} {ρ : Res} {s : ρ.S} {r : AV} (h : r.open = true) : closedB pin r [(0, .res ρ s)] := by
  refine ⟨fun j hj => (by rw [has2_open h] at hj; cases hj), fun i e hi j hj => ?_⟩
  rw [look_cons] at hi
  by_cases h : i = 0
  · rw [if_pos h] at hi; cases hi; cases hj
  · rw [if_neg h] at hi; cases hi
theorem twalk_c : ∀ (t : TR) (n : Nat), n + t.size ≤ 900000 → ∀ (ρ : Res), ρ.P = Tryz.prog → ρ.Λ = tab → ∀ s, Gv.Can ρ s ((itsL n t.els).map itA) →
    Ct tab Tryz.prog 149 [.d t.d, iv n, .d (.v ρ.fv)] [(0, .res ρ s)] (fun q σ' => ∃ b s', Feeds ρ s ((itsL n t.els).map itA) b s' ∧ q = bv b ∧ σ' = [(0, .res ρ s')])
  | .nil, n, hn, ρ, hP, hΛ, s, hc => by
    refine Ct.of_vc Tryz.f149 Tryz.func149 rfl rfl fun w H B g0 => ?_
    (repeat (first | refine Spl.t rfl ?_ | refine Spl.f rfl ?_))
    exact FinP.of [(0, .res ρ s)] (Wk.cons rfl (Wk.nil _)) (closed_resE rfl) ⟨true, s, .nil _, rfl, rfl⟩
  | .node l x r, n, hn, ρ, hP, hΛ, s, hc => by
    simp only [TR.size] at hn
    have hl := TR.els_len l
    rw [TR.els, itsL_app, itsL, hl, List.map_append, List.map_cons] at hc ⊢
    have hc1 := Gv.Can.app hc
    have ihl := twalk_c l n (by omega) ρ hP hΛ s hc1.1
    have e1 : IntKind.i64.wrap ((n : Int) + (l.size : Int)) = ((n + l.size : Nat) : Int) := by rw [wrap_id _ (by omega) (by omega)]; omega
    have e2 : IntKind.i64.wrap (IntKind.i64.wrap ((n : Int) + (l.size : Int)) + 1) = ((n + l.size + 1 : Nat) : Int) := by rw [e1, wrap_id _ (by omega) (by omega)]; omega
    refine Ct.of_wv Tryz.f149 Tryz.func149 rfl rfl fun w H B g0 => ?_
    try refine WJ.cut ?_
    (first | refine Sq.go ?_ | refine vL_nil (Sq.go ?_) | skip)
    try refine WJ.cut ?_
    (repeat (first | refine Spl.t rfl ?_ | refine Spl.f rfl ?_))
    (first | refine Sq.go ?_ | refine vL_nil (Sq.go ?_) | skip)
    try refine WJ.cut ?_
    refine OpJ.callV (size_c l) (fun _ _ => rfl) rfl rfl rfl ?_
    (first | refine Sq.go ?_ | refine vL_nil (Sq.go ?_) | skip)
    try refine WJ.cut ?_
    refine OpJ.call ihl (fun _ _ => rfl) rfl rfl (Wk.cons rfl (Wk.nil _)) ?_
    rintro qv σ' ⟨b, s1, hf, rfl, rfl⟩
    refine ⟨rfl, ?_⟩
    cases b with
    | false =>
      (repeat (first | refine Spl.t rfl ?_ | refine Spl.f rfl ?_))
      (first | refine Sq.go ?_ | refine vL_nil (Sq.go ?_) | skip)
      try refine vc_sound _ _ _ _ ?_
      exact FinP.of [(0, .res ρ s1)] (Wk.cons rfl (Wk.nil _)) (closed_resE rfl) ⟨false, s1, hf.cut _, rfl, rfl⟩
    | true =>
      have hc2 := hc1.2 s1 hf
      (repeat (first | refine Spl.t rfl ?_ | refine Spl.f rfl ?_))
      refine OpJ.callRes (j := 0) (ρ := ρ) (st := s1) (avs := itA (n + l.size, x)) hP hΛ rfl rfl (by show _ = some [iv ((n + l.size : Nat) : Int), elv x]; rw [← e1]; rfl) rfl rfl rfl hc2.1 fun b s2 hs => ?_
      cases b with
      | false =>
        (repeat (first | refine Spl.t rfl ?_ | refine Spl.f rfl ?_))
        (first | refine Sq.go ?_ | refine vL_nil (Sq.go ?_) | skip)
        try refine vc_sound _ _ _ _ ?_
        exact FinP.of [(0, .res ρ s2)] (Wk.cons rfl (Wk.nil _)) (closed_resE rfl) ⟨false, s2, hf.app (.stop hs), rfl, rfl⟩
      | true =>
        have ihr := twalk_c r (n + l.size + 1) (by omega) ρ hP hΛ s2 (hc2.2 s2 hs)
        (repeat (first | refine Spl.t rfl ?_ | refine Spl.f rfl ?_))
        refine OpJ.call ihr (fun _ _ => rfl) rfl (by rw [← e2]; rfl) (Wk.cons rfl (Wk.nil _)) ?_
        rintro qv σ' ⟨b, s3, hf3, rfl, rfl⟩
        refine ⟨rfl, ?_⟩
        (repeat (first | refine Spl.t rfl ?_ | refine Spl.f rfl ?_))
        (first | refine Sq.go ?_ | refine vL_nil (Sq.go ?_) | skip)
        try refine vc_sound _ _ _ _ ?_
        exact FinP.of [(0, .res ρ s3)] (Wk.cons rfl (Wk.nil _)) (closed_resE rfl) ⟨b, s3, hf.app (.go hs hf3), rfl, rfl⟩
abbrev treeD (t : TR) : D := .ptr [t.d]
abbrev tallF (t : TR) : AV := .d (.fn 148 [treeD t])
theorem rep_fnE {γ : Ids} {H : HF} {f : FuncId} {cs : List AV} {ds : List D} {u : Value} (h : dAll cs = some ds) (r : Rep γ H (.fnp f cs) u) : Rep γ H (.d (.fn f ds)) u := by
  cases r with
  | fnp _ _ us hl hr =>
    obtain ⟨h1, h2⟩ := dAll_get h
    refine .d _ _ (.fn f ds us (by rw [hl, h1]) fun j x v hx hv => ?_)
    obtain ⟨a, ha, hd⟩ := h2 j x hx
    exact dOf_sound hd (hr j a v ha hv)
theorem TAll_c (t : TR) : Cv 103 [tv t] (tallF t) := by
  refine Ct.of_vc Tryz.f103 Tryz.func103 rfl rfl fun w H B g0 => ?_
  exact FinP.pub 1 rfl rfl (FinP.view (fun _ _ _ => rep_fnE rfl) (FinP.open rfl rfl))
theorem tall_iter (t : TR) (hs : t.size ≤ 800000) : Iter tab Tryz.prog 148 [.d (treeD t)] ((itsL 0 t.els).map itA) := by
  intro ρ hP hΛ s hc
  have hwk := twalk_c t 0 (by omega) ρ hP hΛ s hc
  refine Ct.of_vc Tryz.f148 Tryz.func148 rfl rfl fun w H B g0 => ?_
  (repeat (first | refine Spl.t rfl ?_ | refine Spl.f rfl ?_))
  refine OpJ.call hwk (fun _ _ => rfl) rfl rfl (Wk.cons rfl (Wk.nil _)) ?_
  rintro qv σ' ⟨b, s', hf, rfl, rfl⟩
  refine ⟨rfl, ?_⟩
  exact FinP.of [(0, .res ρ s')] (Wk.cons rfl (Wk.nil _)) (closed_resE rfl) ⟨b, s', hf, rfl⟩
/-- The bytes of those that are alive. -/
def txtZ : List EL → List Int
  | [] => []
  | e :: r => if e.dead = true then txtZ r else Lib.encodeRuneZ e.ch ++ txtZ r
theorem txtZ_app : ∀ (A B : List EL), txtZ (A ++ B) = txtZ A ++ txtZ B
  | [], _ => rfl
  | e :: A, B => by
    rw [List.cons_append, txtZ, txtZ, txtZ_app A B]
    split
    · rfl
    · rw [List.append_assoc]
theorem txtZ_len : ∀ A : List EL, (txtZ A).length ≤ 4 * A.length
  | [] => Nat.le_refl _
  | e :: A => by
    rw [txtZ, List.length_cons]
    have := txtZ_len A
    split
    · omega
    · have h := Lib.encodeRuneZ_length e.ch
      rw [List.length_append]; omega
theorem txtZ_byte : ∀ (A : List EL) (k : Int), k ∈ txtZ A → 0 ≤ k ∧ k < 256
  | [], k, h => by simp [txtZ] at h
  | e :: A, k, h => by
    rw [txtZ] at h
    split at h
    · exact txtZ_byte A k h
    · rcases List.mem_append.1 h with h | h
      · exact Lib.encodeRuneZ_byte e.ch k h
      · exact txtZ_byte A k h
def okE (e : EL) : Prop := -2147483648 ≤ e.ch ∧ e.ch ≤ 2147483647
def bldV : List Int → Sg
  | [] => bld0
  | x :: xs => bldS (x :: xs)
theorem Text_c (t : TR) (hs : t.size ≤ 800000) (hok : ∀ e, e ∈ t.els → okE e) : Cv 64 [tv t] (sv (byt (txtZ t.els))) := by
  have it := tall_iter t hs
  have hlen := TR.els_len t
  refine Ct.of_wv Tryz.f64 Tryz.func64 rfl rfl fun w H B g0 => ?_
  try refine WJ.cut ?_
  (first | refine Sq.go ?_ | refine vL_nil (Sq.go ?_) | skip)
  try refine WJ.cut ?_
  refine O.allocT rfl rfl rfl rfl rfl ?_
  (first | refine Sq.go ?_ | refine vL_nil (Sq.go ?_) | skip)
  try refine WJ.cut ?_
  refine OpJ.callV (TAll_c t) (fun _ _ => rfl) rfl rfl rfl ?_
  refine WJ.rangeK itA (itsL 0 t.els) (V := List Int) bldV [3, 1000] (fun pre v => v = txtZ (pre.map fun x => x.2)) (fun _ _ _ => False) [] it rfl rfl (.fn _ _) rfl (fun _ _ => rfl) rfl rfl (fun _ => rfl) (by repeat' (first | exact trivial | exact rfl | refine And.intro ?_ ?_)) rfl ?_ ?_ ?_
  · intro l pre x post v hL hI w0 H0 B0 g1
    have hpl : (pre.map fun x => x.2) ++ x.2 :: post.map (fun x => x.2) = t.els := by
      have : (itsL 0 t.els).map (fun x => x.2) = t.els := by
        have : ∀ (A : List EL) (n : Nat), (itsL n A).map (fun x => x.2) = A := fun A => by
          induction A with
          | nil => intro n; rfl
          | cons e A ih => intro n; rw [itsL, List.map_cons, ih]
        exact this _ _
      rw [hL, List.map_append, List.map_cons] at this
      exact this
    have hx := hok x.2 (by rw [← hpl]; simp)
    have hv : v.length ≤ 900000000 := by
      have h1 := txtZ_len (pre.map fun x => x.2)
      have h2 := congrArg List.length hpl
      rw [List.length_append] at h2
      rw [hI]; omega
    have hnext : txtZ ((pre ++ [x]).map fun x => x.2) = v ++ (if x.2.dead = true then [] else Lib.encodeRuneZ x.2.ch) := by
      rw [List.map_append, txtZ_app, ← hI]
      simp only [List.map_cons, List.map_nil, txtZ]
      split <;> simp
    have henc := Lib.encodeRuneZ_length x.2.ch
    obtain ⟨n, ⟨xi, xc, xd⟩⟩ := x
    cases v with
    | nil =>
      intro w0 H0 B0 g1
      cases xd with
      | true =>
        (repeat (first | refine Spl.t rfl ?_ | refine Spl.f rfl ?_))
        exact ⟨[], hnext.symm, (by repeat' (first | exact trivial | exact rfl | refine And.intro ?_ ?_))⟩
      | false =>
        (repeat (first | refine Spl.t rfl ?_ | refine Spl.f rfl ?_))
        refine OpJ.call (rune0_c xc hx.1 hx.2) (fun _ _ => rfl) rfl rfl (Wk.cons rfl (Wk.nil _)) ?_
        rintro q σ' ⟨rfl, rfl⟩
        refine ⟨rfl, ?_⟩
        (repeat (first | refine Spl.t rfl ?_ | refine Spl.f rfl ?_))
        obtain ⟨y, ys, e⟩ : ∃ y ys, Lib.encodeRuneZ xc = y :: ys := by
          cases h : Lib.encodeRuneZ xc with
          | nil => rw [h] at henc; simp at henc
          | cons y ys => exact ⟨y, ys, rfl⟩
        refine ⟨y :: ys, ?_, ?_⟩
        · exact e.symm.trans hnext.symm
        · rw [e]; exact (by repeat' (first | exact trivial | exact rfl | refine And.intro ?_ ?_))
    | cons y ys =>
      intro w0 H0 B0 g1
      cases xd with
      | true =>
        (repeat (first | refine Spl.t rfl ?_ | refine Spl.f rfl ?_))
        exact ⟨y :: ys, (hnext.trans (List.append_nil _)).symm, (by repeat' (first | exact trivial | exact rfl | refine And.intro ?_ ?_))⟩
      | false =>
        (repeat (first | refine Spl.t rfl ?_ | refine Spl.f rfl ?_))
        refine OpJ.call (runeS_c (y :: ys) xc hx.1 hx.2 hv) (fun _ _ => rfl) rfl rfl (Wk.cons rfl (Wk.cons rfl (Wk.nil _))) ?_
        rintro q σ' ⟨rfl, rfl⟩
        refine ⟨rfl, ?_⟩
        (repeat (first | refine Spl.t rfl ?_ | refine Spl.f rfl ?_))
        exact ⟨y :: (ys ++ Lib.encodeRuneZ xc), hnext.symm, (by repeat' (first | exact trivial | exact rfl | refine And.intro ?_ ?_))⟩
  · intro v hI
    have hall : (itsL 0 t.els).map (fun x => x.2) = t.els := by
      have : ∀ (A : List EL) (n : Nat), (itsL n A).map (fun x => x.2) = A := fun A => by
        induction A with
        | nil => intro n; rfl
        | cons e A ih => intro n; rw [itsL, List.map_cons, ih]
      exact this _ _
    rw [hall] at hI
    rw [← hI]
    cases v with
    | nil =>
      (first | refine Sq.go ?_ | refine vL_nil (Sq.go ?_) | skip)
      try refine vc_sound _ _ _ _ ?_
      refine OpJ.call str0_c (fun _ _ => rfl) rfl rfl (Wk.cons rfl (Wk.nil _)) ?_
      rintro q σ' ⟨rfl, rfl⟩
      refine ⟨rfl, ?_⟩
      exact FinP.open rfl rfl
    | cons y ys =>
      have h1 := txtZ_len t.els
      have h2 := txtZ_byte t.els
      rw [← hI] at h1 h2
      (first | refine Sq.go ?_ | refine vL_nil (Sq.go ?_) | skip)
      try refine vc_sound _ _ _ _ ?_
      refine OpJ.call (strS_c (y :: ys) (by simp) (by omega) h2) (fun _ _ => rfl) rfl rfl (Wk.cons rfl (Wk.cons rfl (Wk.nil _))) ?_
      rintro q σ' ⟨rfl, rfl⟩
      refine ⟨rfl, ?_⟩
      exact FinP.open rfl rfl
  · intro c p v h
    exact h.elim
end Go.Proofs.E
end
section
open Go Go.Gv
attribute [local irreducible] Go.Gv.WJ Go.Gv.OpJ Go.Gv.QJ Go.Gv.Spl Go.Gv.Req Go.Gv.IdxP Go.Gv.RegP Go.Gv.FinP Go.Gv.CellP Go.Gv.CellsP Go.Gv.ArrP Go.Gv.ArrsP Go.Gv.DropP Go.Gv.ByteP Go.Gv.StoreP
set_option maxRecDepth 100000
namespace Go.Proofs.E
def abcS : ByteArray := ⟨#[97, 98, 99]⟩
def trs : Nat → TR
  | 0 => .nil
  | 1 => insT .nil 0 ⟨⟨1, 1⟩, 97, false⟩
  | 2 => insT (insT .nil 0 ⟨⟨1, 1⟩, 97, false⟩) 1 ⟨⟨2, 1⟩, 98, true⟩
  | _ => insT (insT (insT .nil 0 ⟨⟨1, 1⟩, 97, false⟩) 1 ⟨⟨2, 1⟩, 98, true⟩) 2 ⟨⟨3, 1⟩, 99, false⟩
theorem Awake3_c : Cv 138 [] (bv true) := by
  have i0 := Insert_c (trs 0) 0 ⟨⟨1, 1⟩, 97, false⟩ (by decide)
  have i1 := Insert_c (trs 1) 1 ⟨⟨2, 1⟩, 98, true⟩ (by decide)
  have i2 := Insert_c (trs 2) 2 ⟨⟨3, 1⟩, 99, false⟩ (by decide)
  have se := Select_c (trs 3) 1 (by decide)
  have ra := Rank_c (trs 3) 2 (by decide) (by decide) (by decide)
  have tx := Text_c (trs 3) (by decide) (by unfold okE; decide +kernel)
  refine Ct.of_wv Tryz.f138 Tryz.func138 rfl rfl fun w H B g0 => ?_
  try refine WJ.cut ?_
  (first | refine Sq.go ?_ | refine vL_nil (Sq.go ?_) | skip)
  try refine WJ.cut ?_
  (first | refine Sq.go ?_ | refine vL_nil (Sq.go ?_) | skip)
  try refine WJ.cut ?_
  refine O.rangeS rfl rfl rfl rfl ?_
  refine WJ.loopK (V := Nat) (fun _ => []) (fun v => [(1, .cells [.d (trs v).d]), (6, .obj (.stringIter abcS v))]) [1, 6] (fun v => 3 - v) (fun v => v ≤ 3) 0 (by decide) (by repeat' (first | exact trivial | exact rfl | refine And.intro ?_ ?_)) (by repeat' (first | exact trivial | exact rfl | refine And.intro ?_ ?_)) ?_
  intro v hv
  obtain rfl | rfl | rfl | rfl : v = 0 ∨ v = 1 ∨ v = 2 ∨ v = 3 := by omega
  · refine O.nextS rfl rfl (by decide) rfl ?_
    (repeat (first | refine Spl.t rfl ?_ | refine Spl.f rfl ?_))
    refine OpJ.callV i0 (fun _ _ => rfl) rfl rfl rfl ?_
    (repeat (first | refine Spl.t rfl ?_ | refine Spl.f rfl ?_))
    exact ⟨1, by decide, by decide, (by repeat' (first | exact trivial | exact rfl | refine And.intro ?_ ?_)), (by repeat' (first | exact trivial | exact rfl | refine And.intro ?_ ?_)), (by repeat' (first | exact trivial | exact rfl | refine And.intro ?_ ?_)), (by repeat' (first | exact trivial | exact rfl | refine And.intro ?_ ?_))⟩
  · refine O.nextS rfl rfl (by decide) rfl ?_
    (repeat (first | refine Spl.t rfl ?_ | refine Spl.f rfl ?_))
    refine OpJ.callV i1 (fun _ _ => rfl) rfl rfl rfl ?_
    (repeat (first | refine Spl.t rfl ?_ | refine Spl.f rfl ?_))
    exact ⟨2, by decide, by decide, (by repeat' (first | exact trivial | exact rfl | refine And.intro ?_ ?_)), (by repeat' (first | exact trivial | exact rfl | refine And.intro ?_ ?_)), (by repeat' (first | exact trivial | exact rfl | refine And.intro ?_ ?_)), (by repeat' (first | exact trivial | exact rfl | refine And.intro ?_ ?_))⟩
  · refine O.nextS rfl rfl (by decide) rfl ?_
    (repeat (first | refine Spl.t rfl ?_ | refine Spl.f rfl ?_))
    refine OpJ.callV i2 (fun _ _ => rfl) rfl rfl rfl ?_
    (repeat (first | refine Spl.t rfl ?_ | refine Spl.f rfl ?_))
    exact ⟨3, by decide, by decide, (by repeat' (first | exact trivial | exact rfl | refine And.intro ?_ ?_)), (by repeat' (first | exact trivial | exact rfl | refine And.intro ?_ ?_)), (by repeat' (first | exact trivial | exact rfl | refine And.intro ?_ ?_)), (by repeat' (first | exact trivial | exact rfl | refine And.intro ?_ ?_))⟩
  · refine O.overS rfl rfl (by decide) rfl ?_
    (repeat (first | refine Spl.t rfl ?_ | refine Spl.f rfl ?_))
    (first | refine Sq.go ?_ | refine vL_nil (Sq.go ?_) | skip)
    try refine WJ.cut ?_
    refine OpJ.callV se (fun _ _ => rfl) rfl rfl rfl ?_
    (first | refine Sq.go ?_ | refine vL_nil (Sq.go ?_) | skip)
    try refine WJ.cut ?_
    refine OpJ.callV Awake_c (fun _ _ => rfl) rfl rfl rfl ?_
    (repeat (first | refine Spl.t rfl ?_ | refine Spl.f rfl ?_))
    refine OpJ.callV ra (fun _ _ => rfl) rfl rfl rfl ?_
    (repeat (first | refine Spl.t rfl ?_ | refine Spl.f rfl ?_))
    refine OpJ.callV tx (fun _ _ => rfl) rfl rfl rfl ?_
    (repeat (first | refine Spl.t rfl ?_ | refine Spl.f rfl ?_))
    (first | refine Sq.go ?_ | refine vL_nil (Sq.go ?_) | skip)
    try refine vc_sound _ _ _ _ ?_
    refine FinP.open rfl (congrArg bv ?_)
    decide +kernel
end Go.Proofs.E
end
section
open Go Go.Gv
attribute [local irreducible] Go.Gv.WJ Go.Gv.OpJ Go.Gv.QJ Go.Gv.Spl Go.Gv.Req Go.Gv.IdxP Go.Gv.RegP Go.Gv.FinP Go.Gv.CellP Go.Gv.CellsP Go.Gv.ArrP Go.Gv.ArrsP Go.Gv.DropP Go.Gv.ByteP Go.Gv.StoreP
set_option maxRecDepth 100000
namespace Go.Proofs.E
structure AC where
  over : Bool
  at_ : Int
  e : EL
abbrev acD (x : AC) : List D := [.v (.bool x.over), .v (.int .i64 x.at_), .v (.int .i64 x.e.id.c), .v (.int .i64 x.e.id.s), .v (.int .i32 x.e.ch), .v (.bool x.e.dead)]
theorem eqEL (a b : EL) : eqT Tryz.prog 4 157 [.int .i64 a.id.c, .int .i64 a.id.s, .int .i32 a.ch, .bool a.dead] [.int .i64 b.id.c, .int .i64 b.id.s, .int .i32 b.ch, .bool b.dead] = some (decide (a = b)) := by
  show some ((decide (a.id.c = b.id.c) && (decide (a.id.s = b.id.s) && true)) && (decide (a.ch = b.ch) && ((a.dead == b.dead) && true))) = _
  obtain ⟨⟨a1, a2⟩, a3, a4⟩ := a
  obtain ⟨⟨b1, b2⟩, b3, b4⟩ := b
  simp [Bool.and_assoc, and_assoc]
  cases a4 <;> cases b4 <;> simp
theorem eqEL_ok : eqOk Tryz.prog 4 157 = true := by kernel_rfl
theorem eqEL_g : Tryz.prog.eqGuardType Tryz.prog.depth 157 = false := by kernel_rfl
theorem ins_els {t : TR} {i : Int} {e : EL} (he : okE e) (h : ∀ x, x ∈ t.els → okE x) : (∀ x, x ∈ (insT t i e).els → okE x) ∧ (insT t i e).size ≤ t.size + 1 := by
  unfold insT
  split
  · next hi =>
    have h1 : i.toNat ≤ t.size := by omega
    rw [size_ins _ _ _ h1, TR.els_ins _ _ _ h1]
    refine ⟨fun x hx => ?_, Nat.le_refl _⟩
    rcases List.mem_append.1 hx with hx | hx
    · exact h x (List.mem_of_mem_take hx)
    · rcases List.mem_cons.1 hx with rfl | hx
      · exact he
      · exact h x (List.mem_of_mem_drop hx)
  · exact ⟨h, by omega⟩
theorem set_els {t : TR} {i : Int} {e : EL} : (setT t i e).size = t.size := by
  unfold setT
  split
  · next hi =>
    obtain ⟨h1, h2⟩ := hasT_iff hi
    exact size_set _ _ _ (by omega)
  · rfl
theorem some_earE {k k' : Nat} {xs ys : List (List D)} (h : xs = ys) (hk : k = k') : some (Ent.arr k xs) = some (Ent.arr k' ys) := by rw [h, hk]
theorem its_all (A : List EL) : ∀ n, (itsL n A).map (fun x => x.2) = A := by
  induction A with
  | nil => intro n; rfl
  | cons e A ih => intro n; rw [itsL, List.map_cons, ih]
theorem acRow (cs : List D) (h : (Ty.st [.bool, .int .i64, .st [.st [.int .i64, .int .i64], .int .i32, .bool]]).ok cs) : ∃ x : AC, cs = acD x ∧ okE x.e := by
  obtain ⟨_, _, rfl, ⟨b0, rfl⟩, ⟨_, _, rfl, ⟨a0, rfl, _⟩, ⟨_, _, rfl, ⟨_, _, rfl, ⟨_, _, rfl, ⟨a1, rfl, _⟩, ⟨_, _, rfl, ⟨a2, rfl, _⟩, rfl⟩⟩, ⟨_, _, rfl, ⟨a3, rfl, w⟩, ⟨_, _, rfl, ⟨b1, rfl⟩, rfl⟩⟩⟩, rfl⟩⟩⟩ := h
  exact ⟨⟨b0, a0, ⟨⟨a1, a2⟩, a3, b1⟩⟩, rfl, i32_rng w⟩
end Go.Proofs.E
end
section
open Go Go.Gv
attribute [local irreducible] Go.Gv.WJ Go.Gv.OpJ Go.Gv.QJ Go.Gv.Spl Go.Gv.Req Go.Gv.IdxP Go.Gv.RegP Go.Gv.FinP Go.Gv.CellP Go.Gv.CellsP Go.Gv.ArrP Go.Gv.ArrsP Go.Gv.DropP Go.Gv.ByteP Go.Gv.StoreP
set_option maxRecDepth 100000
namespace Go.Proofs.E
namespace TR
/-- No side is more than three times as heavy as the other one. -/
def okb : TR → Prop
  | .nil => True
  | .node l _ r => l.okb ∧ r.okb ∧ r.wt ≤ 3 * l.wt ∧ l.wt ≤ 3 * r.wt
theorem wt_pos (t : TR) : 0 < t.wt := by unfold wt; omega
theorem wt_nil : TR.nil.wt = 1 := rfl
theorem wt_node (l : TR) (e : EL) (r : TR) : (TR.node l e r).wt = l.wt + r.wt := by unfold wt; rw [size]; omega
theorem okb_turnL {l r : TR} (e : EL) (hl : l.okb) (hr : r.okb) (h : r.wt = 3 * l.wt + 1) : (turnL l e r).okb := by
  cases r with
  | nil => rw [wt_nil] at h; have := l.wt_pos; omega
  | node rl re rr =>
    obtain ⟨h1, h2, h3, h4⟩ := hr
    rw [wt_node] at h
    have p0 := l.wt_pos
    simp only [turnL]
    split
    · next hb =>
      have hb := blt_true hb
      exact ⟨⟨hl, h1, by omega, by omega⟩, h2, by rw [wt_node]; omega, by rw [wt_node]; omega⟩
    · next hb =>
      have hb := blt_false hb
      cases rl with
      | nil => rw [wt_nil] at hb; have := rr.wt_pos; omega
      | node ml me mr =>
        obtain ⟨m1, m2, m3, m4⟩ := h1
        rw [wt_node] at h3 h4 hb h
        exact ⟨⟨hl, m1, by omega, by omega⟩, ⟨m2, h2, by omega, by omega⟩, by rw [wt_node, wt_node]; omega, by rw [wt_node, wt_node]; omega⟩
theorem okb_turnR {l r : TR} (e : EL) (hl : l.okb) (hr : r.okb) (h : l.wt = 3 * r.wt + 1) : (turnR l e r).okb := by
  cases l with
  | nil => rw [wt_nil] at h; have := r.wt_pos; omega
  | node ll le lr =>
    obtain ⟨h1, h2, h3, h4⟩ := hl
    rw [wt_node] at h
    have p0 := r.wt_pos
    simp only [turnR]
    split
    · next hb =>
      have hb := blt_true hb
      exact ⟨h1, ⟨h2, hr, by omega, by omega⟩, by rw [wt_node]; omega, by rw [wt_node]; omega⟩
    · next hb =>
      have hb := blt_false hb
      cases lr with
      | nil => rw [wt_nil] at hb; have := ll.wt_pos; omega
      | node ml me mr =>
        obtain ⟨m1, m2, m3, m4⟩ := h2
        rw [wt_node] at h3 h4 hb h
        exact ⟨⟨h1, m1, by omega, by omega⟩, ⟨m2, hr, by omega, by omega⟩, by rw [wt_node, wt_node]; omega, by rw [wt_node, wt_node]; omega⟩
theorem okb_bal {l r : TR} (e : EL) (hl : l.okb) (hr : r.okb) (h1 : r.wt ≤ 3 * l.wt + 1) (h2 : l.wt ≤ 3 * r.wt + 1) : (bal l e r).okb := by
  unfold bal
  split
  · next hb => exact okb_turnL e hl hr (by have := blt_true hb; omega)
  · next hb =>
    split
    · next hb2 => exact okb_turnR e hl hr (by have := blt_true hb2; omega)
    · next hb2 => exact ⟨hl, hr, blt_false hb, blt_false hb2⟩
theorem okb_ins : ∀ (i : Nat) (e : EL) (t : TR), i ≤ t.size → t.okb → (ins i e t).okb
  | i, e, .nil, _, _ => ⟨trivial, trivial, by decide, by decide⟩
  | i, e, .node l x r, hi, h => by
    obtain ⟨h1, h2, h3, h4⟩ := h
    simp only [size] at hi
    simp only [ins]
    split
    · next hb =>
      have hb := Nat.le_of_ble_eq_true hb
      have hz := size_ins i e l hb
      have hw : (ins i e l).wt = l.wt + 1 := by unfold wt; omega
      exact okb_bal x (okb_ins i e l hb h1) h2 (by omega) (by omega)
    · next hb =>
      have hb := ble_false hb
      have hz := size_ins (i - l.size - 1) e r (by omega)
      have hw : (ins (i - l.size - 1) e r).wt = r.wt + 1 := by unfold wt; omega
      exact okb_bal x h1 (okb_ins _ e r (by omega) h2) (by omega) (by omega)
theorem okb_set : ∀ (i : Nat) (e : EL) (t : TR), i < t.size → t.okb → (set i e t).okb
  | i, e, .nil, hi, _ => by simp [size] at hi
  | i, e, .node l x r, hi, h => by
    obtain ⟨h1, h2, h3, h4⟩ := h
    simp only [size] at hi
    simp only [set]
    split
    · next hb =>
      have hb := blt_true hb
      have hz := size_set i e l hb
      have hw : (set i e l).wt = l.wt := by unfold wt; omega
      exact ⟨okb_set i e l hb h1, h2, by omega, by omega⟩
    · next hb =>
      have hb := blt_false hb
      split
      · next hb2 =>
        have hb2 := blt_true hb2
        have hz := size_set (i - l.size - 1) e r (by omega)
        have hw : (set (i - l.size - 1) e r).wt = r.wt := by unfold wt; omega
        exact ⟨h1, okb_set _ e r (by omega) h2, by omega, by omega⟩
      · exact ⟨h1, h2, h3, h4⟩
theorem deep_pow : ∀ t : TR, t.okb → 4 ^ t.deep ≤ t.wt * 3 ^ t.deep
  | .nil, _ => by decide
  | .node l e r, ⟨h1, h2, h3, h4⟩ => by
    have il := deep_pow l h1
    have ir := deep_pow r h2
    have key : ∀ (c d : Nat), 4 ^ d ≤ c * 3 ^ d → 4 * c ≤ 3 * (l.wt + r.wt) → 4 ^ (d + 1) ≤ (l.wt + r.wt) * 3 ^ (d + 1) := fun c d h5 h6 => by
      rw [Nat.pow_succ, Nat.pow_succ]
      calc 4 ^ d * 4 ≤ c * 3 ^ d * 4 := Nat.mul_le_mul_right 4 h5
        _ = (4 * c) * 3 ^ d := by rw [Nat.mul_right_comm, Nat.mul_comm c 4]
        _ ≤ (3 * (l.wt + r.wt)) * 3 ^ d := Nat.mul_le_mul_right _ h6
        _ = (l.wt + r.wt) * (3 ^ d * 3) := by rw [Nat.mul_comm 3, Nat.mul_assoc, Nat.mul_comm 3 (3 ^ d)]
    rw [wt_node, deep]
    by_cases h : l.deep ≤ r.deep
    · rw [show Nat.max l.deep r.deep = r.deep from Nat.max_eq_right h]; exact key r.wt r.deep ir (by omega)
    · rw [show Nat.max l.deep r.deep = l.deep from Nat.max_eq_left (by omega)]; exact key l.wt l.deep il (by omega)
theorem deep_flat {t : TR} (h : t.okb) : 2 ^ (t.deep / 3) ≤ t.size + 1 := by
  have h1 := deep_pow t h
  generalize t.deep = d at h1
  show 2 ^ (d / 3) ≤ t.wt
  generalize t.wt = c at h1
  obtain ⟨q, r, hd, hr⟩ : ∃ q r, d = 3 * q + r ∧ d / 3 = q := ⟨d / 3, d % 3, by omega, rfl⟩
  rw [hr]
  rw [hd, Nat.pow_add, Nat.pow_add, Nat.pow_mul, Nat.pow_mul] at h1
  have h2 : 3 ^ r ≤ 4 ^ r := Nat.pow_le_pow_left (by decide) r
  have h3 : (4 ^ 3) ^ q ≤ c * (3 ^ 3) ^ q := by
    have h4 : (4 ^ 3) ^ q * 4 ^ r ≤ (c * (3 ^ 3) ^ q) * 4 ^ r := by
      calc (4 ^ 3) ^ q * 4 ^ r ≤ c * ((3 ^ 3) ^ q * 3 ^ r) := h1
        _ = (c * (3 ^ 3) ^ q) * 3 ^ r := by rw [Nat.mul_assoc]
        _ ≤ (c * (3 ^ 3) ^ q) * 4 ^ r := Nat.mul_le_mul_left _ h2
    exact Nat.le_of_mul_le_mul_right h4 (Nat.pow_pos (by decide))
  have h5 : 2 ^ q * 27 ^ q ≤ (4 ^ 3) ^ q := by
    rw [← Nat.mul_pow]; exact Nat.pow_le_pow_left (by decide) q
  have h6 : 2 ^ q * 27 ^ q ≤ c * 27 ^ q := Nat.le_trans h5 h3
  exact Nat.le_of_mul_le_mul_right h6 (Nat.pow_pos (by decide))
theorem deep_pos {t : TR} (h : 0 < t.size) : 0 < t.deep := by
  cases t with
  | nil => simp [size] at h
  | node l e r => rw [deep]; omega
end TR
theorem okb_insT {t : TR} (i : Int) (e : EL) (h : t.okb) : (insT t i e).okb := by
  unfold insT
  split
  · next hi => exact TR.okb_ins _ _ _ (by omega) h
  · exact h
theorem okb_setT {t : TR} (i : Int) (e : EL) (h : t.okb) : (setT t i e).okb := by
  unfold setT
  split
  · next hi =>
    obtain ⟨h1, h2⟩ := hasT_iff hi
    exact TR.okb_set _ _ _ (by omega) h
  · exact h
end Go.Proofs.E
end
section
open Go Go.Gv
attribute [local irreducible] Go.Gv.WJ Go.Gv.OpJ Go.Gv.QJ Go.Gv.Spl Go.Gv.Req Go.Gv.IdxP Go.Gv.RegP Go.Gv.FinP Go.Gv.CellP Go.Gv.CellsP Go.Gv.ArrP Go.Gv.ArrsP Go.Gv.DropP Go.Gv.ByteP Go.Gv.StoreP
set_option maxRecDepth 100000
namespace Go.Proofs.E
attribute [local irreducible] elems
structure SS where
  t : TR
  p : PT
  n : Int
abbrev stv (s : SS) : AV := .agg [.d s.t.d, .d s.p.d, iv s.n]
/-- A state stands for the operations that were applied. -/
structure isS (s : SS) (l : List OP) : Prop where
  dn : Dn l
  els : s.t.els = rowE l
  bal : s.t.okb
  mp : ∃ M, isM s.p s.n M ∧ (∀ a, alook a M = entO l a) ∧ M.length = (insL l).length
theorem isS.size {s : SS} {l : List OP} (h : isS s l) : s.t.size = (insL l).length := by rw [← TR.els_len, h.els, row_len h.dn]
theorem isS.small {s : SS} {l : List OP} (h : isS s l) : s.t.size ≤ 4096 := by rw [h.size]; exact h.dn.is.len
theorem GetS_c {s : SS} {l : List OP} (h : isS s l) (a : ID) : Cv 141 [mapv s.p s.n, idv a] (getv (entO l a)) := by
  obtain ⟨M, h1, h2, _⟩ := h.mp
  rw [← h2]
  exact GetIs_c h1 a
theorem ent_some {l : List OP} {a : ID} : (entO l a).isSome = (findO 0 a l).isSome := by unfold entO; rw [Option.isSome_map]
theorem Has_c {s : SS} {l : List OP} (h : isS s l) (a : ID) : Cv 113 [stv s, idv a] (bv (findO 0 a l).isSome) := by
  have hg := GetS_c h a
  rw [← ent_some]
  cases he : entO l a with
  | none =>
    rw [he] at hg
    refine Ct.of_vc Tryz.f113 Tryz.func113 rfl rfl fun w H B g0 => ?_
    refine OpJ.callV hg (fun _ _ => rfl) rfl rfl rfl ?_
    (repeat (first | refine Spl.t rfl ?_ | refine Spl.f rfl ?_))
    exact FinP.open rfl rfl
  | some e =>
    rw [he] at hg
    refine Ct.of_vc Tryz.f113 Tryz.func113 rfl rfl fun w H B g0 => ?_
    refine OpJ.callV hg (fun _ _ => rfl) rfl rfl rfl ?_
    (repeat (first | refine Spl.t rfl ?_ | refine Spl.f rfl ?_))
    exact FinP.open rfl rfl
theorem okE_of {l : List OP} (h : Dn l) : ∀ e, e ∈ rowE l → okE e := fun e he => by
  obtain ⟨o, ho, rfl⟩ := (row_mem h).1 he
  obtain ⟨h1, h2⟩ := mem_insL.1 ho
  rcases (checkO_0 (h.is.ok o h1)).2 with ⟨h3, _⟩ | ⟨_, _, h4, h5⟩
  · omega
  · unfold okE elO; simp only; omega
theorem Find_c {s : SS} {l : List OP} (h : isS s l) (a : ID) : Cv 70 [stv s, idv a] (.tup [iv (placeL a (rowE l)), bv (decide (0 ≤ placeL a (rowE l)))]) := by
  have hs := h.small
  have it := tall_iter s.t (by omega)
  rw [h.els] at it
  refine Ct.of_wv Tryz.f70 Tryz.func70 rfl rfl fun w H B g0 => ?_
  try refine WJ.cut ?_
  (first | refine Sq.go ?_ | refine vL_nil (Sq.go ?_) | skip)
  try refine WJ.cut ?_
  refine OpJ.callV (Has_c h a) (fun _ _ => rfl) rfl rfl rfl ?_
  refine Spl.of (fun h1 => ?_) (fun h1 => ?_)
  · have h1 : (findO 0 a l).isSome = false := by simpa using h1
    have h2 := place_has h.dn a
    rw [h1] at h2
    have h3 : placeL a (rowE l) = -1 := by
      have := of_decide_eq_false h2
      have := placeL_ge a (rowE l)
      omega
    (repeat (first | refine Spl.t rfl ?_ | refine Spl.f rfl ?_))
    refine .out (by simp) ?_
    refine FinP.open rfl ?_
    rw [h3]; rfl
  · have h1 : (findO 0 a l).isSome = true := by simpa using h1
    have h2 := place_has h.dn a
    rw [h1] at h2
    have h3 := of_decide_eq_true h2
    (repeat (first | refine Spl.t rfl ?_ | refine Spl.f rfl ?_))
    (first | refine Sq.go ?_ | refine vL_nil (Sq.go ?_) | skip)
    try refine WJ.cut ?_
    refine OpJ.callV (TAll_c s.t) (fun _ _ => rfl) rfl rfl rfl ?_
    refine WJ.rangeK itA (itsL 0 (rowE l)) (V := Int × Bool) (fun v => [(4, .cells [iv v.1]), (5, .cells [bv v.2])]) [4, 5] (fun pre v => v = (0, false) ∧ ∀ x, x ∈ pre → x.2.id ≠ a) (fun c _ v => c = .ret ∧ v = (placeL a (rowE l), true)) (0, false) it rfl rfl (.fn _ _) rfl (fun _ _ => rfl) rfl rfl (fun _ => rfl) (by repeat' (first | exact trivial | exact rfl | refine And.intro ?_ ?_)) ⟨rfl, by simp⟩ ?_ ?_ ?_
    · intro l0 pre x post v hL hI w0 H0 B0 g1
      obtain ⟨rfl, hI⟩ := hI
      intro w0 H0 B0 g1
      have hget : (itsL 0 (rowE l))[pre.length]? = some x := by rw [hL]; simp
      rw [itsL_get] at hget
      obtain ⟨e, he⟩ : ∃ e, (rowE l)[pre.length]? = some e := by
        cases hz : (rowE l)[pre.length]? with
        | none => rw [hz] at hget; cases hget
        | some e => exact ⟨e, rfl⟩
      rw [he] at hget
      have hxe : x = (pre.length, e) := by simpa using hget.symm
      have hpre : ∀ j y, j < pre.length → (rowE l)[j]? = some y → y.id ≠ a := fun j y hj hy => by
        have h5 : (itsL 0 (rowE l))[j]? = some (j, y) := by rw [itsL_get, hy]; simp
        rw [hL, List.getElem?_append_left hj] at h5
        exact hI _ (List.mem_of_getElem? h5)
      subst hxe
      refine OpJ.qu (O.eqT 3 rfl rfl rfl rfl rfl eqI_ok eqI_g (eqI e.id a)) rfl ?_
      refine Spl.of (fun h4 => ?_) (fun h4 => ?_)
      · have h4 : e.id = a := of_decide_eq_true h4
        have hp := placeL_at he h4 hpre
        (repeat (first | refine Spl.t rfl ?_ | refine Spl.f rfl ?_))
        exact ⟨(placeL a (rowE l), true), ⟨rfl, rfl⟩, ⟨congrArg (fun z : Int => some (Ent.cells [iv z])) hp.symm, (by repeat' (first | exact trivial | exact rfl | refine And.intro ?_ ?_))⟩⟩
      · have h4 : ¬ e.id = a := of_decide_eq_false h4
        (repeat (first | refine Spl.t rfl ?_ | refine Spl.f rfl ?_))
        exact ⟨(0, false), ⟨rfl, fun y hy => by rcases List.mem_append.1 hy with hy | hy; exact hI y hy; rw [List.mem_singleton.1 hy]; exact h4⟩, (by repeat' (first | exact trivial | exact rfl | refine And.intro ?_ ?_))⟩
    · rintro v ⟨rfl, hI⟩
      exfalso
      obtain ⟨e, h4, h5, _⟩ := placeL_get h3
      have h6 : (itsL 0 (rowE l))[(placeL a (rowE l)).toNat]? = some (0 + (placeL a (rowE l)).toNat, e) := by rw [itsL_get, h4]; rfl
      exact hI _ (List.mem_of_getElem? h6) h5
    · rintro c p v ⟨rfl, rfl⟩
      refine .out (by simp) ?_
      refine FinP.open rfl ?_
      rw [decide_eq_true h3]; rfl
theorem atT_row {s : SS} {l : List OP} (h : isS s l) (k : Nat) : atT s.t (k : Int) = (rowE l)[k]? := by
  unfold atT; rw [if_pos (by omega), Int.toNat_natCast, h.els]
theorem posAt_place (f : OP → EL) (hf : ∀ x, (f x).id = x.i) (o : OP) : ∀ L : List OP, 0 ≤ placeL o.a (L.map f) → posAt o L = (placeL o.a (L.map f)).toNat + 1 + pos1 o (L.drop ((placeL o.a (L.map f)).toNat + 1))
  | [], h => by simp [placeL] at h
  | x :: r, h => by
    rw [List.map_cons, placeL] at h ⊢
    rw [posAt]
    by_cases e : x.i = o.a
    · rw [if_pos e, if_pos (by rw [hf]; exact e)]; simp; omega
    · rw [if_neg e, if_neg (by rw [hf]; exact e)]
      rw [if_neg (by rw [hf]; exact e)] at h
      by_cases e2 : placeL o.a (r.map f) < 0
      · rw [if_pos e2] at h; omega
      · rw [if_neg e2, posAt_place f hf o r (by omega), show (placeL o.a (r.map f) + 1).toNat = (placeL o.a (r.map f)).toNat + 1 by omega, List.drop_succ_cons]; omega
theorem place_none {l : List OP} (h : Dn l) : placeL ⟨0, 0⟩ (rowE l) = -1 := placeL_none fun e he e2 => by
  obtain ⟨o, ho, rfl⟩ := (row_mem h).1 he
  have := h.is.tk.is.c0 o ho
  have e3 : o.i = ⟨0, 0⟩ := e2
  rw [e3] at this; simp at this
theorem place_c {s : SS} {l : List OP} (h : isS s l) {o : OP} (hw : wrongO l o = 0) (hk : o.k = 0) : Cv 145 [stv s, opv o] (iv (posO l o)) := by
  have hs := h.small
  have hle := posO_le h.dn hw hk
  have hlen := row_len h.dn
  have hll := h.dn.is.len
  obtain ⟨hc, h1⟩ := wrong_0 hw
  obtain ⟨hnew, ha⟩ : findO 0 o.i l = none ∧ (o.a = ⟨0, 0⟩ ∨ (findO 0 o.a l).isSome = true) := by
    rcases h1 with ⟨h1, _⟩ | ⟨_, h2, h3, _⟩
    · omega
    · exact ⟨h2, h3⟩
  have start : (placeL o.a (rowE l) < 0 → o.a = ⟨0, 0⟩ ∧ 0 + pos1 o (folR (insL l)) = posO l o) ∧ (0 ≤ placeL o.a (rowE l) → (placeL o.a (rowE l)).toNat + 1 + pos1 o ((folR (insL l)).drop ((placeL o.a (rowE l)).toNat + 1)) = posO l o) := by
    refine ⟨fun hlt => ?_, fun hge => ?_⟩
    · have : o.a = ⟨0, 0⟩ := by
        rcases ha with ha | ha
        · exact ha
        · rw [← place_has h.dn] at ha
          have := of_decide_eq_true ha; omega
      refine ⟨this, ?_⟩
      unfold posO posR; rw [if_pos this, Nat.zero_add]
    · have : o.a ≠ ⟨0, 0⟩ := fun e => by rw [e, place_none h.dn] at hge; omega
      unfold posO posR; rw [if_neg this]
      exact (posAt_place (elO l) (fun _ => rfl) o _ hge).symm
  have hlp := placeL_lt o.a (rowE l)
  have hgp := placeL_ge o.a (rowE l)
  have stopN : ∀ k : Nat, k ≤ (rowE l).length → k + pos1 o ((folR (insL l)).drop k) = posO l o → (rowE l)[k]? = none → (k : Int) = posO l o := fun k hkl hpos hr => by
    have hkeq : k = (rowE l).length := by have := List.getElem?_eq_none_iff.1 hr; omega
    rw [← hpos, List.drop_eq_nil_of_le (by rw [h.dn.is.tk.is.len]; omega)]; rfl
  have stepN : ∀ (k : Nat) (e : EL), k + pos1 o ((folR (insL l)).drop k) = posO l o → (rowE l)[k]? = some e → (lessI e.id o.i = true → (k : Int) = posO l o) ∧ (lessI e.id o.i = false → k + 1 ≤ (rowE l).length ∧ k + 1 + pos1 o ((folR (insL l)).drop (k + 1)) = posO l o) := fun k e hpos hr => by
    obtain ⟨x, hx, hxe⟩ : ∃ x, (folR (insL l))[k]? = some x ∧ elO l x = e := by
      unfold rowE at hr
      rw [List.getElem?_map] at hr
      cases hz : (folR (insL l))[k]? with
      | none => rw [hz] at hr; cases hr
      | some x => rw [hz] at hr; exact ⟨x, rfl, Option.some.inj hr⟩
    have hxi : e.id = x.i := by rw [← hxe]; rfl
    have hd : (folR (insL l)).drop k = x :: (folR (insL l)).drop (k + 1) := by
      have hlt := (List.getElem?_eq_some_iff.1 hx).1
      rw [List.drop_eq_getElem_cons hlt]; congr 1; exact (List.getElem?_eq_some_iff.1 hx).2
    have hklt : k < (rowE l).length := (List.getElem?_eq_some_iff.1 hr).1
    have hxl := mem_insL.1 ((h.dn.is.tk.is.mem x).1 (List.mem_of_getElem? hx))
    have hne : x.i ≠ o.i := findO_none hnew x hxl.1 hxl.2
    rw [hd, pos1] at hpos
    refine ⟨fun h5 => ?_, fun h5 => ?_⟩
    · have hn : ¬ lessI o.i x.i = true := fun h6 => less_irr _ (less_tr h6 (hxi ▸ h5))
      rw [if_neg hn] at hpos; omega
    · have hn : lessI o.i x.i = true := less_tot (by rw [← hxi, h5]; decide) hne
      rw [if_pos hn] at hpos
      exact ⟨by omega, by omega⟩
  refine Ct.of_wv Tryz.f145 Tryz.func145 rfl rfl fun w H B g0 => ?_
  try refine WJ.cut ?_
  (first | refine Sq.go ?_ | refine vL_nil (Sq.go ?_) | skip)
  try refine WJ.cut ?_
  (first | refine Sq.go ?_ | refine vL_nil (Sq.go ?_) | skip)
  try refine WJ.cut ?_
  refine OpJ.callV (Find_c h o.a) (fun _ _ => rfl) rfl rfl rfl ?_
  (first | refine Sq.go ?_ | refine vL_nil (Sq.go ?_) | skip)
  try refine WJ.cut ?_
  refine Spl.of (fun h1 => ?_) (fun h1 => ?_)
  · have h1 := of_decide_eq_true h1
    have hK0 := start.2 h1
    have e1 : IntKind.i64.wrap (placeL o.a (rowE l) + 1) = (((placeL o.a (rowE l)).toNat + 1 : Nat) : Int) := by rw [wrap_id _ (by omega) (by omega)]; omega
    (repeat (first | refine Spl.t rfl ?_ | refine Spl.f rfl ?_))
    (first | refine Sq.go ?_ | refine vL_nil (Sq.go ?_) | skip)
    try refine vc_sound _ _ _ _ ?_
    refine WJ.loopK (V := Nat) (fun k => [(5, iv k)]) (fun _ => []) [] (fun k => (rowE l).length + 1 - k) (fun k => k ≤ (rowE l).length ∧ k + pos1 o ((folR (insL l)).drop k) = posO l o) ((placeL o.a (rowE l)).toNat + 1) ⟨by omega, hK0⟩ ⟨some_iv e1, trivial⟩ (by repeat' (first | exact trivial | exact rfl | refine And.intro ?_ ?_)) ?_
    (rintro k ⟨hkl, hpos⟩; obtain ⟨r, hr⟩ : ∃ r, atT s.t ((k : Nat) : Int) = r := ⟨_, rfl⟩; have hat := At_c s.t (k : Int) (by omega); rw [hr] at hat; rw [atT_row h] at hr; rcases r with _ | e; (have hfin := stopN k hkl hpos hr; refine OpJ.callV hat (fun _ _ => rfl) rfl rfl rfl ?_; (repeat (first | refine Spl.t rfl ?_ | refine Spl.f rfl ?_)); exact FinP.open rfl (congrArg iv hfin)); (obtain ⟨s1, s2⟩ := stepN k e hpos hr; refine OpJ.callV hat (fun _ _ => rfl) rfl rfl rfl ?_; (repeat (first | refine Spl.t rfl ?_ | refine Spl.f rfl ?_)); refine OpJ.callV (Less_c e.id o.i) (fun _ _ => rfl) rfl rfl rfl ?_; (repeat (first | refine Spl.t rfl ?_ | refine Spl.f rfl ?_)); refine Spl.of (fun h5 => ?_) (fun h5 => ?_); (have hfin := s1 h5; (repeat (first | refine Spl.t rfl ?_ | refine Spl.f rfl ?_)); exact FinP.open rfl (congrArg iv hfin)); (obtain ⟨s3, s4⟩ := s2 h5; (repeat (first | refine Spl.t rfl ?_ | refine Spl.f rfl ?_)); exact ⟨k + 1, ⟨s3, s4⟩, by omega, ⟨some_iv (wrap_id _ (by omega) (by omega)), trivial⟩, (by repeat' (first | exact trivial | exact rfl | refine And.intro ?_ ?_)), (by repeat' (first | exact trivial | exact rfl | refine And.intro ?_ ?_)), (by repeat' (first | exact trivial | exact rfl | refine And.intro ?_ ?_))⟩)))
  · have h1 := of_decide_eq_false h1
    have hK0 := (start.1 (by omega)).2
    (repeat (first | refine Spl.t rfl ?_ | refine Spl.f rfl ?_))
    (first | refine Sq.go ?_ | refine vL_nil (Sq.go ?_) | skip)
    try refine vc_sound _ _ _ _ ?_
    refine WJ.loopK (V := Nat) (fun k => [(5, iv k)]) (fun _ => []) [] (fun k => (rowE l).length + 1 - k) (fun k => k ≤ (rowE l).length ∧ k + pos1 o ((folR (insL l)).drop k) = posO l o) 0 ⟨by omega, hK0⟩ (by repeat' (first | exact trivial | exact rfl | refine And.intro ?_ ?_)) (by repeat' (first | exact trivial | exact rfl | refine And.intro ?_ ?_)) ?_
    (rintro k ⟨hkl, hpos⟩; obtain ⟨r, hr⟩ : ∃ r, atT s.t ((k : Nat) : Int) = r := ⟨_, rfl⟩; have hat := At_c s.t (k : Int) (by omega); rw [hr] at hat; rw [atT_row h] at hr; rcases r with _ | e; (have hfin := stopN k hkl hpos hr; refine OpJ.callV hat (fun _ _ => rfl) rfl rfl rfl ?_; (repeat (first | refine Spl.t rfl ?_ | refine Spl.f rfl ?_)); exact FinP.open rfl (congrArg iv hfin)); (obtain ⟨s1, s2⟩ := stepN k e hpos hr; refine OpJ.callV hat (fun _ _ => rfl) rfl rfl rfl ?_; (repeat (first | refine Spl.t rfl ?_ | refine Spl.f rfl ?_)); refine OpJ.callV (Less_c e.id o.i) (fun _ _ => rfl) rfl rfl rfl ?_; (repeat (first | refine Spl.t rfl ?_ | refine Spl.f rfl ?_)); refine Spl.of (fun h5 => ?_) (fun h5 => ?_); (have hfin := s1 h5; (repeat (first | refine Spl.t rfl ?_ | refine Spl.f rfl ?_)); exact FinP.open rfl (congrArg iv hfin)); (obtain ⟨s3, s4⟩ := s2 h5; (repeat (first | refine Spl.t rfl ?_ | refine Spl.f rfl ?_)); exact ⟨k + 1, ⟨s3, s4⟩, by omega, ⟨some_iv (wrap_id _ (by omega) (by omega)), trivial⟩, (by repeat' (first | exact trivial | exact rfl | refine And.intro ?_ ?_)), (by repeat' (first | exact trivial | exact rfl | refine And.intro ?_ ?_)), (by repeat' (first | exact trivial | exact rfl | refine And.intro ?_ ?_))⟩)))
end Go.Proofs.E
end
section
open Go Go.Gv
attribute [local irreducible] Go.Gv.WJ Go.Gv.OpJ Go.Gv.QJ Go.Gv.Spl Go.Gv.Req Go.Gv.IdxP Go.Gv.RegP Go.Gv.FinP Go.Gv.CellP Go.Gv.CellsP Go.Gv.ArrP Go.Gv.ArrsP Go.Gv.DropP Go.Gv.ByteP Go.Gv.StoreP
set_option maxRecDepth 100000
namespace Go.Proofs.E
attribute [local irreducible] elems
theorem id_of {x o : OP} (h1 : x.k = o.k) (h2 : x.i = o.i) (h3 : x.a = o.a) (h4 : x.ch = o.ch) : x = o := by
  obtain ⟨a, b, c, d⟩ := x
  obtain ⟨a', b', c', d'⟩ := o
  simp_all
theorem wrongI_c {s : SS} {l : List OP} (h : isS s l) {o : OP} (hc : checkO o = 0) (hk : o.k = 0) : Cv 144 [stv s, opv o] (iv (wrongO l o)) := by
  have hg := GetS_c h o.i
  have hw : wrongO l o = if findO 0 o.i l = some o then 4 else if (findO 0 o.i l).isSome = true then 5 else if o.a ≠ ⟨0, 0⟩ ∧ (findO 0 o.a l).isSome = false then 6 else if 4096 ≤ (insL l).length then 7 else 0 := by
    unfold wrongO; rw [if_neg (fun e => e hc), if_neg (by omega)]
  have hn : noneI o.a = decide (o.a = ⟨0, 0⟩) := by
    unfold noneI
    obtain ⟨a, b⟩ := o.a
    exact decide_eq_decide.2 ⟨fun h => by simp only at h; rw [h.1, h.2], fun h => by cases h; simp⟩
  cases hf : findO 0 o.i l with
  | some x =>
    obtain ⟨x1, x2, x3⟩ := findO_some hf
    have he : entO l o.i = some ⟨x.a, x.ch, deadO l o.i⟩ := by unfold entO; rw [hf]; rfl
    rw [he] at hg
    rw [hf] at hw
    refine Ct.of_vc Tryz.f144 Tryz.func144 rfl rfl fun w H B g0 => ?_
    refine OpJ.callV hg (fun _ _ => rfl) rfl rfl rfl ?_
    (repeat (first | refine Spl.t rfl ?_ | refine Spl.f rfl ?_))
    refine OpJ.qu (O.eqT 3 rfl rfl rfl rfl rfl eqI_ok eqI_g (eqI x.a o.a)) rfl ?_
    refine Spl.of (fun h1 => ?_) (fun h1 => ?_)
    · have h1 := of_decide_eq_true h1
      (repeat (first | refine Spl.t rfl ?_ | refine Spl.f rfl ?_))
      refine Spl.of (fun h2 => ?_) (fun h2 => ?_)
      · have h2 := of_decide_eq_true h2
        (repeat (first | refine Spl.t rfl ?_ | refine Spl.f rfl ?_))
        refine FinP.open rfl (congrArg iv ?_)
        rw [hw, if_pos (by rw [id_of (x2.trans hk.symm) x3 h1 h2])]
      · have h2 := of_decide_eq_false h2
        (repeat (first | refine Spl.t rfl ?_ | refine Spl.f rfl ?_))
        refine FinP.open rfl (congrArg iv ?_)
        rw [hw, if_neg (fun e => h2 (by rw [Option.some.inj e]))]; simp
    · have h1 := of_decide_eq_false h1
      (repeat (first | refine Spl.t rfl ?_ | refine Spl.f rfl ?_))
      refine FinP.open rfl (congrArg iv ?_)
      rw [hw, if_neg (fun e => h1 (by rw [Option.some.inj e]))]; simp
  | none =>
    have he : entO l o.i = none := by unfold entO; rw [hf]; rfl
    rw [he] at hg
    rw [hf, if_neg (by simp), if_neg (by simp)] at hw
    have hlen : ((s.t.size : Nat) : Int) = ((insL l).length : Int) := by rw [h.size]
    refine Ct.of_vc Tryz.f144 Tryz.func144 rfl rfl fun w H B g0 => ?_
    refine OpJ.callV hg (fun _ _ => rfl) rfl rfl rfl ?_
    (repeat (first | refine Spl.t rfl ?_ | refine Spl.f rfl ?_))
    refine OpJ.callV (None_c o.a) (fun _ _ => rfl) rfl rfl rfl ?_
    (repeat (first | refine Spl.t rfl ?_ | refine Spl.f rfl ?_))
    rw [hn]
    refine Spl.of (fun h3 => ?_) (fun h3 => ?_)
    · have h3 : o.a ≠ ⟨0, 0⟩ := by simpa using h3
      (repeat (first | refine Spl.t rfl ?_ | refine Spl.f rfl ?_))
      refine OpJ.callV (Has_c h o.a) (fun _ _ => rfl) rfl rfl rfl ?_
      (repeat (first | refine Spl.t rfl ?_ | refine Spl.f rfl ?_))
      refine Spl.of (fun h4 => ?_) (fun h4 => ?_)
      · have h4 : (findO 0 o.a l).isSome = false := by simpa using h4
        (repeat (first | refine Spl.t rfl ?_ | refine Spl.f rfl ?_))
        refine FinP.open rfl (congrArg iv ?_)
        rw [hw, if_pos ⟨h3, h4⟩]
      · have h4 : (findO 0 o.a l).isSome = true := by simpa using h4
        have hno : ¬ (o.a ≠ ⟨0, 0⟩ ∧ (findO 0 o.a l).isSome = false) := fun e => by rw [h4] at e; cases e.2
        ((repeat (first | refine Spl.t rfl ?_ | refine Spl.f rfl ?_)); refine OpJ.callV (TLen_c s.t) (fun _ _ => rfl) rfl rfl rfl ?_; refine Spl.of (fun h5 => ?_) (fun h5 => ?_); (have h5 := of_decide_eq_true h5; (repeat (first | refine Spl.t rfl ?_ | refine Spl.f rfl ?_)); refine FinP.open rfl (congrArg iv ?_); rw [hw, if_neg hno, if_pos (by omega)]); (have h5 := of_decide_eq_false h5; (repeat (first | refine Spl.t rfl ?_ | refine Spl.f rfl ?_)); refine FinP.open rfl (congrArg iv ?_); rw [hw, if_neg hno, if_neg (by omega)]))
    · have h3 : o.a = ⟨0, 0⟩ := by simpa using h3
      have hno : ¬ (o.a ≠ ⟨0, 0⟩ ∧ (findO 0 o.a l).isSome = false) := fun e => e.1 h3
      ((repeat (first | refine Spl.t rfl ?_ | refine Spl.f rfl ?_)); refine OpJ.callV (TLen_c s.t) (fun _ _ => rfl) rfl rfl rfl ?_; refine Spl.of (fun h5 => ?_) (fun h5 => ?_); (have h5 := of_decide_eq_true h5; (repeat (first | refine Spl.t rfl ?_ | refine Spl.f rfl ?_)); refine FinP.open rfl (congrArg iv ?_); rw [hw, if_neg hno, if_pos (by omega)]); (have h5 := of_decide_eq_false h5; (repeat (first | refine Spl.t rfl ?_ | refine Spl.f rfl ?_)); refine FinP.open rfl (congrArg iv ?_); rw [hw, if_neg hno, if_neg (by omega)]))
def insS (s : SS) (l : List OP) (o : OP) : SS := ⟨insT s.t (posO l o) ⟨o.i, o.ch, false⟩, PT.put 8 (keyI o.i) ⟨o.a, o.ch, false⟩ s.p, nPut s.p s.n o.i⟩
theorem insS_is {s : SS} {l : List OP} (h : isS s l) {o : OP} (hw : wrongO l o = 0) (hk : o.k = 0) : isS (insS s l o) (l ++ [o]) := by
  have hle := posO_le h.dn hw hk
  obtain ⟨hc, h1⟩ := wrong_0 hw
  have hnew : findO 0 o.i l = none := by
    rcases h1 with ⟨h1, _⟩ | ⟨_, h2, _⟩
    · omega
    · exact h2
  have hm := (checkO_0 hc).1
  refine ⟨.snoc h.dn hw, ?_, okb_insT _ _ h.bal, ?_⟩
  · have hsz : posO l o ≤ s.t.size := by rw [← TR.els_len, h.els]; exact hle
    show (insT s.t ((posO l o : Nat) : Int) ⟨o.i, o.ch, false⟩).els = _
    rw [insT, if_pos ⟨by omega, by omega⟩, Int.toNat_natCast, TR.els_ins _ _ _ hsz, h.els, row_ins h.dn hw hk]
  · obtain ⟨M, m1, m2, m3⟩ := h.mp
    refine ⟨insM o.i ⟨o.a, o.ch, false⟩ M, isM_put m1 hm _, fun a => ?_, ?_⟩
    · rw [alook_insM m1.up, ent_ins h.dn hw hk, m2]
    · rw [len_insM m1.up, m2, show entO l o.i = none by unfold entO; rw [hnew]; rfl, insL_snoc0 hk, List.length_append, m3]; simp
theorem insert_c {s : SS} {l : List OP} (h : isS s l) {o : OP} (hw : wrongO l o = 0) (hk : o.k = 0) : Cv 96 [stv s, opv o] (.tup [stv (insS s l o), iv (posO l o), iv 0]) := by
  obtain ⟨hc, h1⟩ := wrong_0 hw
  have hm := (checkO_0 hc).1
  have hwi := wrongI_c h hc hk
  rw [hw] at hwi
  obtain ⟨M, m1, m2, m3⟩ := h.mp
  have hll := h.dn.is.len
  have hle := posO_le h.dn hw hk
  have hi := Insert_c s.t (posO l o) ⟨o.i, o.ch, false⟩ (by have := h.small; omega)
  have hp := PutIs_c m1 (by omega) o.i ⟨o.a, o.ch, false⟩ hm
  refine Ct.of_wv Tryz.f96 Tryz.func96 rfl rfl fun w H B g0 => ?_
  try refine WJ.cut ?_
  (first | refine Sq.go ?_ | refine vL_nil (Sq.go ?_) | skip)
  try refine WJ.cut ?_
  refine OpJ.callV hwi (fun _ _ => rfl) rfl rfl rfl ?_
  (first | refine Sq.go ?_ | refine vL_nil (Sq.go ?_) | skip)
  try refine WJ.cut ?_
  (repeat (first | refine Spl.t rfl ?_ | refine Spl.f rfl ?_))
  (first | refine Sq.go ?_ | refine vL_nil (Sq.go ?_) | skip)
  try refine WJ.cut ?_
  refine OpJ.callV (place_c h hw hk) (fun _ _ => rfl) rfl rfl rfl ?_
  (first | refine Sq.go ?_ | refine vL_nil (Sq.go ?_) | skip)
  try refine WJ.cut ?_
  refine OpJ.callV hi (fun _ _ => rfl) rfl rfl rfl ?_
  (first | refine Sq.go ?_ | refine vL_nil (Sq.go ?_) | skip)
  try refine WJ.cut ?_
  refine OpJ.callV hp (fun _ _ => rfl) rfl rfl rfl ?_
  (first | refine Sq.go ?_ | refine vL_nil (Sq.go ?_) | skip)
  try refine vc_sound _ _ _ _ ?_
  exact FinP.open rfl rfl
theorem insertNo_c {s : SS} {l : List OP} (h : isS s l) {o : OP} (hc : checkO o = 0) (hw : wrongO l o ≠ 0) (hk : o.k = 0) : Cv 96 [stv s, opv o] (.tup [stv s, iv (-1), iv (wrongO l o)]) := by
  have hwi := wrongI_c h hc hk
  refine Ct.of_wv Tryz.f96 Tryz.func96 rfl rfl fun w H B g0 => ?_
  try refine WJ.cut ?_
  (first | refine Sq.go ?_ | refine vL_nil (Sq.go ?_) | skip)
  try refine WJ.cut ?_
  refine OpJ.callV hwi (fun _ _ => rfl) rfl rfl rfl ?_
  (first | refine Sq.go ?_ | refine vL_nil (Sq.go ?_) | skip)
  try refine WJ.cut ?_
  refine Spl.t (by simpa using hw) ?_
  (repeat (first | refine Spl.t rfl ?_ | refine Spl.f rfl ?_))
  refine .out (by simp) ?_
  exact FinP.open rfl rfl
def delE (l : List OP) (o : OP) : EN := (entO l o.i).getD EN.zero
def delS (s : SS) (l : List OP) (o : OP) : SS := ⟨setT s.t (placeL o.i (rowE l)) ⟨o.i, (delE l o).ch, true⟩, PT.put 8 (keyI o.i) ⟨(delE l o).a, (delE l o).ch, true⟩ s.p, nPut s.p s.n o.i⟩
theorem delS_is {s : SS} {l : List OP} (h : isS s l) {o : OP} (hw : wrongO l o = 0) (hk : o.k = 1) : isS (delS s l o) (l ++ [o]) := by
  obtain ⟨hc, h1⟩ := wrong_0 hw
  have hm := (checkO_0 hc).1
  obtain ⟨n, ch, d1, d2, d3, d4, d5⟩ := row_del h.dn hw hk
  have hde : delE l o = ⟨((findO 0 o.i l).map (·.a)).getD ⟨0, 0⟩, ch, false⟩ := by unfold delE; rw [d3]; rfl
  refine ⟨.snoc h.dn hw, ?_, okb_setT _ _ h.bal, ?_⟩
  · have hlt : n < s.t.size := by rw [← TR.els_len, h.els]; exact (List.getElem?_eq_some_iff.1 d2).1
    show (setT s.t (placeL o.i (rowE l)) ⟨o.i, (delE l o).ch, true⟩).els = _
    rw [d1, setT, if_pos (show hasT s.t (n : Int) = true from decide_eq_true ⟨by omega, by omega⟩), Int.toNat_natCast, TR.els_set _ _ _ hlt, h.els, d4, hde]
  · obtain ⟨M, m1, m2, m3⟩ := h.mp
    refine ⟨insM o.i ⟨(delE l o).a, (delE l o).ch, true⟩ M, isM_put m1 hm _, fun a => ?_, ?_⟩
    · rw [alook_insM m1.up, ent_del hk, m2]
      by_cases e : a = o.i
      · rw [if_pos e, if_pos e, e, d3, hde]; rfl
      · rw [if_neg e, if_neg e]
    · rw [len_insM m1.up, m2, d3, insL_snoc1 (by omega), m3]; rfl
theorem remove_c {s : SS} {l : List OP} (h : isS s l) {o : OP} (hw : wrongO l o = 0) (hk : o.k = 1) : Cv 95 [stv s, opv o] (.tup [stv (delS s l o), iv (placeL o.i (rowE l)), iv 0]) := by
  obtain ⟨hc, h1⟩ := wrong_0 hw
  have hm := (checkO_0 hc).1
  obtain ⟨n, ch, d1, d2, d3, d4, d5⟩ := row_del h.dn hw hk
  have hg := GetS_c h o.i
  have hde : delE l o = ⟨((findO 0 o.i l).map (·.a)).getD ⟨0, 0⟩, ch, false⟩ := by unfold delE; rw [d3]; rfl
  rw [d3, ← hde] at hg
  obtain ⟨M, m1, m2, m3⟩ := h.mp
  have hll := h.dn.is.len
  have hi := Set_c s.t (placeL o.i (rowE l)) ⟨o.i, (delE l o).ch, true⟩ (by have := h.small; omega)
  have hp := PutIs_c m1 (by omega) o.i ⟨(delE l o).a, (delE l o).ch, true⟩ hm
  have hdd : (delE l o).dead = false := by rw [hde]
  have hf := Find_c h o.i
  refine Ct.of_wv Tryz.f95 Tryz.func95 rfl rfl fun w H B g0 => ?_
  try refine WJ.cut ?_
  (first | refine Sq.go ?_ | refine vL_nil (Sq.go ?_) | skip)
  try refine WJ.cut ?_
  refine OpJ.callV hg (fun _ _ => rfl) rfl rfl rfl ?_
  (first | refine Sq.go ?_ | refine vL_nil (Sq.go ?_) | skip)
  try refine WJ.cut ?_
  (repeat (first | refine Spl.t rfl ?_ | refine Spl.f rfl ?_))
  refine Spl.f hdd ?_
  (first | refine Sq.go ?_ | refine vL_nil (Sq.go ?_) | skip)
  try refine WJ.cut ?_
  refine OpJ.callV hf (fun _ _ => rfl) rfl rfl rfl ?_
  (first | refine Sq.go ?_ | refine vL_nil (Sq.go ?_) | skip)
  try refine WJ.cut ?_
  (first | refine Sq.go ?_ | refine vL_nil (Sq.go ?_) | skip)
  try refine WJ.cut ?_
  refine OpJ.callV hi (fun _ _ => rfl) rfl rfl rfl ?_
  (first | refine Sq.go ?_ | refine vL_nil (Sq.go ?_) | skip)
  try refine WJ.cut ?_
  refine OpJ.callV hp (fun _ _ => rfl) rfl rfl rfl ?_
  (first | refine Sq.go ?_ | refine vL_nil (Sq.go ?_) | skip)
  try refine vc_sound _ _ _ _ ?_
  exact FinP.open rfl rfl
theorem removeNo_c {s : SS} {l : List OP} (h : isS s l) {o : OP} (hc : checkO o = 0) (hw : wrongO l o ≠ 0) (hk : o.k = 1) : Cv 95 [stv s, opv o] (.tup [stv s, iv (-1), iv (wrongO l o)]) := by
  have hg := GetS_c h o.i
  have hwe : wrongO l o = if (findO 0 o.i l).isSome = true then (if deadO l o.i = true then 4 else 0) else 6 := by
    unfold wrongO; rw [if_neg (fun e => e hc), if_pos hk]
  rw [hwe] at hw
  rw [hwe]
  cases hf : findO 0 o.i l with
  | none =>
    have he : entO l o.i = none := by unfold entO; rw [hf]; rfl
    rw [he] at hg
    refine Ct.of_vc Tryz.f95 Tryz.func95 rfl rfl fun w H B g0 => ?_
    refine OpJ.callV hg (fun _ _ => rfl) rfl rfl rfl ?_
    (repeat (first | refine Spl.t rfl ?_ | refine Spl.f rfl ?_))
    exact FinP.open rfl rfl
  | some x =>
    have he : entO l o.i = some ⟨x.a, x.ch, deadO l o.i⟩ := by unfold entO; rw [hf]; rfl
    rw [he] at hg
    rw [hf, if_pos (show (some x).isSome = true from rfl)] at hw
    have hd : deadO l o.i = true := by
      cases hd : deadO l o.i with
      | true => rfl
      | false => rw [hd] at hw; exact absurd rfl hw
    rw [if_pos (show (some x).isSome = true from rfl), if_pos hd]
    refine Ct.of_vc Tryz.f95 Tryz.func95 rfl rfl fun w H B g0 => ?_
    refine OpJ.callV hg (fun _ _ => rfl) rfl rfl rfl ?_
    (repeat (first | refine Spl.t rfl ?_ | refine Spl.f rfl ?_))
    refine Spl.t hd ?_
    (repeat (first | refine Spl.t rfl ?_ | refine Spl.f rfl ?_))
    exact FinP.open rfl rfl
/-- A state behind an operation. -/
def appS (s : SS) (l : List OP) (o : OP) : SS := if wrongO l o = 0 then (if o.k = 1 then delS s l o else insS s l o) else s
def appL (l : List OP) (o : OP) : List OP := if wrongO l o = 0 then l ++ [o] else l
def atO (l : List OP) (o : OP) : Int := if wrongO l o = 0 then placeL o.i (rowE (l ++ [o])) else -1
theorem appS_is {s : SS} {l : List OP} (h : isS s l) (o : OP) : isS (appS s l o) (appL l o) := by
  unfold appS appL
  split
  · next hw =>
    split
    · next hk => exact delS_is h hw hk
    · next hk =>
      have : o.k = 0 := by rcases (checkO_0 (wrong_0 hw).1).2 with h | h; exact absurd h.1 hk; exact h.1
      exact insS_is h hw this
  · exact h
theorem Apply_c {s : SS} {l : List OP} (h : isS s l) (o : OP) : Cv 57 [stv s, opv o] (.tup [stv (appS s l o), iv (atO l o), iv (wrongO l o)]) := by
  by_cases hc : checkO o = 0
  · have hkk := (checkO_0 hc).2
    have hck := Check5_c o
    rw [hc] at hck
    by_cases hk : o.k = 1
    · have key : Cv 95 [stv s, opv o] (.tup [stv (appS s l o), iv (atO l o), iv (wrongO l o)]) := by
        unfold appS atO
        by_cases hw : wrongO l o = 0
        · obtain ⟨n, ch, d1, d2, d3, d4, d5⟩ := row_del h.dn hw hk
          have := remove_c h hw hk
          rw [if_pos hw, if_pos hk, if_pos hw, hw, d5, ← d1]; exact this
        · rw [if_neg hw, if_neg hw]; exact removeNo_c h hc hw hk
      refine Ct.of_vc Tryz.f57 Tryz.func57 rfl rfl fun w H B g0 => ?_
      refine OpJ.callV hck (fun _ _ => rfl) rfl rfl rfl ?_
      (repeat (first | refine Spl.t rfl ?_ | refine Spl.f rfl ?_))
      refine Spl.t (by rw [hk]; rfl) ?_
      refine OpJ.callV key (fun _ _ => rfl) rfl rfl rfl ?_
      (repeat (first | refine Spl.t rfl ?_ | refine Spl.f rfl ?_))
      exact FinP.open rfl rfl
    · have hk0 : o.k = 0 := by rcases hkk with h | h; exact absurd h.1 hk; exact h.1
      have key : Cv 96 [stv s, opv o] (.tup [stv (appS s l o), iv (atO l o), iv (wrongO l o)]) := by
        unfold appS atO
        by_cases hw : wrongO l o = 0
        · have := insert_c h hw hk0
          rw [if_pos hw, if_neg hk, if_pos hw, hw, place_ins h.dn hw hk0]; exact this
        · rw [if_neg hw, if_neg hw]; exact insertNo_c h hc hw hk0
      refine Ct.of_vc Tryz.f57 Tryz.func57 rfl rfl fun w H B g0 => ?_
      refine OpJ.callV hck (fun _ _ => rfl) rfl rfl rfl ?_
      (repeat (first | refine Spl.t rfl ?_ | refine Spl.f rfl ?_))
      refine Spl.f (by rw [hk0]; rfl) ?_
      (repeat (first | refine Spl.t rfl ?_ | refine Spl.f rfl ?_))
      refine OpJ.callV key (fun _ _ => rfl) rfl rfl rfl ?_
      (repeat (first | refine Spl.t rfl ?_ | refine Spl.f rfl ?_))
      exact FinP.open rfl rfl
  · have hw : wrongO l o = checkO o := by unfold wrongO; rw [if_pos hc]
    have hw0 : ¬ wrongO l o = 0 := by rw [hw]; exact hc
    unfold appS atO
    rw [if_neg hw0, if_neg hw0, hw]
    refine Ct.of_vc Tryz.f57 Tryz.func57 rfl rfl fun w H B g0 => ?_
    refine OpJ.callV (Check5_c o) (fun _ _ => rfl) rfl rfl rfl ?_
    refine Spl.t (by simpa using hc) ?_
    (repeat (first | refine Spl.t rfl ?_ | refine Spl.f rfl ?_))
    exact FinP.open rfl rfl
theorem isS_nil : isS ⟨.nil, .nil, 0⟩ [] := ⟨.nil, rfl, trivial, [], isM_nil, fun _ => rfl, rfl⟩
end Go.Proofs.E
end
section
open Go Go.Gv
attribute [local irreducible] Go.Gv.WJ Go.Gv.OpJ Go.Gv.QJ Go.Gv.Spl Go.Gv.Req Go.Gv.IdxP Go.Gv.RegP Go.Gv.FinP Go.Gv.CellP Go.Gv.CellsP Go.Gv.ArrP Go.Gv.ArrsP Go.Gv.DropP Go.Gv.ByteP Go.Gv.StoreP
set_option maxRecDepth 100000
namespace Go.Proofs.E
attribute [local irreducible] elems
abbrev opD (o : OP) : List D := [.v (.int .i64 o.k), .v (.int .i64 o.i.c), .v (.int .i64 o.i.s), .v (.int .i64 o.a.c), .v (.int .i64 o.a.s), .v (.int .i32 o.ch)]
def aw6 : List OP := [⟨0, ⟨1, 1⟩, ⟨0, 0⟩, 97⟩, ⟨0, ⟨2, 1⟩, ⟨1, 1⟩, 98⟩, ⟨0, ⟨2, 2⟩, ⟨1, 1⟩, 99⟩]
theorem run3 : ∃ s, isS s aw6 ∧ ∃ s1 s2, isS s1 [⟨0, ⟨1, 1⟩, ⟨0, 0⟩, 97⟩] ∧ isS s2 [⟨0, ⟨1, 1⟩, ⟨0, 0⟩, 97⟩, ⟨0, ⟨2, 1⟩, ⟨1, 1⟩, 98⟩] ∧
    Cv 57 [stv ⟨.nil, .nil, 0⟩, opv ⟨0, ⟨1, 1⟩, ⟨0, 0⟩, 97⟩] (.tup [stv s1, iv 0, iv 0]) ∧
    Cv 57 [stv s1, opv ⟨0, ⟨2, 1⟩, ⟨1, 1⟩, 98⟩] (.tup [stv s2, iv 1, iv 0]) ∧
    Cv 57 [stv s2, opv ⟨0, ⟨2, 2⟩, ⟨1, 1⟩, 99⟩] (.tup [stv s, iv 1, iv 0]) := by
  have h1 := appS_is isS_nil ⟨0, ⟨1, 1⟩, ⟨0, 0⟩, 97⟩
  have a1 := Apply_c isS_nil ⟨0, ⟨1, 1⟩, ⟨0, 0⟩, 97⟩
  rw [show appL [] ⟨0, ⟨1, 1⟩, ⟨0, 0⟩, 97⟩ = [⟨0, ⟨1, 1⟩, ⟨0, 0⟩, 97⟩] by decide +kernel] at h1
  rw [show atO [] ⟨0, ⟨1, 1⟩, ⟨0, 0⟩, 97⟩ = 0 by decide +kernel, show wrongO [] ⟨0, ⟨1, 1⟩, ⟨0, 0⟩, 97⟩ = 0 by decide +kernel] at a1
  have h2 := appS_is h1 ⟨0, ⟨2, 1⟩, ⟨1, 1⟩, 98⟩
  have a2 := Apply_c h1 ⟨0, ⟨2, 1⟩, ⟨1, 1⟩, 98⟩
  rw [show appL [⟨0, ⟨1, 1⟩, ⟨0, 0⟩, 97⟩] ⟨0, ⟨2, 1⟩, ⟨1, 1⟩, 98⟩ = [⟨0, ⟨1, 1⟩, ⟨0, 0⟩, 97⟩, ⟨0, ⟨2, 1⟩, ⟨1, 1⟩, 98⟩] by decide +kernel] at h2
  rw [show atO [⟨0, ⟨1, 1⟩, ⟨0, 0⟩, 97⟩] ⟨0, ⟨2, 1⟩, ⟨1, 1⟩, 98⟩ = 1 by decide +kernel, show wrongO [⟨0, ⟨1, 1⟩, ⟨0, 0⟩, 97⟩] ⟨0, ⟨2, 1⟩, ⟨1, 1⟩, 98⟩ = 0 by decide +kernel] at a2
  have h3 := appS_is h2 ⟨0, ⟨2, 2⟩, ⟨1, 1⟩, 99⟩
  have a3 := Apply_c h2 ⟨0, ⟨2, 2⟩, ⟨1, 1⟩, 99⟩
  rw [show appL [⟨0, ⟨1, 1⟩, ⟨0, 0⟩, 97⟩, ⟨0, ⟨2, 1⟩, ⟨1, 1⟩, 98⟩] ⟨0, ⟨2, 2⟩, ⟨1, 1⟩, 99⟩ = aw6 by decide +kernel] at h3
  rw [show atO [⟨0, ⟨1, 1⟩, ⟨0, 0⟩, 97⟩, ⟨0, ⟨2, 1⟩, ⟨1, 1⟩, 98⟩] ⟨0, ⟨2, 2⟩, ⟨1, 1⟩, 99⟩ = 1 by decide +kernel, show wrongO [⟨0, ⟨1, 1⟩, ⟨0, 0⟩, 97⟩, ⟨0, ⟨2, 1⟩, ⟨1, 1⟩, 98⟩] ⟨0, ⟨2, 2⟩, ⟨1, 1⟩, 99⟩ = 0 by decide +kernel] at a3
  exact ⟨_, h3, _, _, h1, h2, a1, a2, a3⟩
theorem TextS_c {s : SS} {l : List OP} (h : isS s l) : Cv 64 [tv s.t] (sv (byt (txtZ (rowE l)))) := by
  have := Text_c s.t (by have := h.small; omega) (by rw [h.els]; exact okE_of h.dn)
  rw [h.els] at this; exact this
theorem Awake6_c : Cv 92 [] (bv true) := by
  obtain ⟨s3, h3, s1, s2, h1, h2, a1, a2, a3⟩ := run3
  have tx := TextS_c h3
  have he : byt (txtZ (rowE aw6)) = [97, 99, 98] := by decide +kernel
  rw [he] at tx
  refine Ct.of_wv Tryz.f92 Tryz.func92 rfl rfl fun w H B g0 => ?_
  try refine WJ.cut ?_
  (first | refine Sq.go ?_ | refine vL_nil (Sq.go ?_) | skip)
  try refine WJ.cut ?_
  (first | refine Sq.go ?_ | refine vL_nil (Sq.go ?_) | skip)
  try refine WJ.cut ?_
  refine WJ.loopK (V := Nat) (fun v => [(14, iv v)]) (fun v => [(1, .cells (match v with | 0 => [.d TR.nil.d, .d PT.nil.d, iv 0] | 1 => [.d s1.t.d, .d s1.p.d, iv s1.n] | 2 => [.d s2.t.d, .d s2.p.d, iv s2.n] | _ => [.d s3.t.d, .d s3.p.d, iv s3.n]))]) [1] (fun v => 3 - v) (fun v => v ≤ 3) 0 (by decide) (by repeat' (first | exact trivial | exact rfl | refine And.intro ?_ ?_)) (by repeat' (first | exact trivial | exact rfl | refine And.intro ?_ ?_)) ?_
  intro v hv
  obtain rfl | rfl | rfl | rfl : v = 0 ∨ v = 1 ∨ v = 2 ∨ v = 3 := by omega
  · (repeat (first | refine Spl.t rfl ?_ | refine Spl.f rfl ?_))
    refine IdxP.of _ (by decide) rfl ?_
    refine OpJ.callV a1 (fun _ _ => rfl) rfl rfl rfl ?_
    (repeat (first | refine Spl.t rfl ?_ | refine Spl.f rfl ?_))
    exact ⟨1, by decide, by decide, (by repeat' (first | exact trivial | exact rfl | refine And.intro ?_ ?_)), (by repeat' (first | exact trivial | exact rfl | refine And.intro ?_ ?_)), (by repeat' (first | exact trivial | exact rfl | refine And.intro ?_ ?_)), (by repeat' (first | exact trivial | exact rfl | refine And.intro ?_ ?_))⟩
  · (repeat (first | refine Spl.t rfl ?_ | refine Spl.f rfl ?_))
    refine IdxP.of _ (by decide) rfl ?_
    refine OpJ.callV a2 (fun _ _ => rfl) rfl rfl rfl ?_
    (repeat (first | refine Spl.t rfl ?_ | refine Spl.f rfl ?_))
    exact ⟨2, by decide, by decide, (by repeat' (first | exact trivial | exact rfl | refine And.intro ?_ ?_)), (by repeat' (first | exact trivial | exact rfl | refine And.intro ?_ ?_)), (by repeat' (first | exact trivial | exact rfl | refine And.intro ?_ ?_)), (by repeat' (first | exact trivial | exact rfl | refine And.intro ?_ ?_))⟩
  · (repeat (first | refine Spl.t rfl ?_ | refine Spl.f rfl ?_))
    refine IdxP.of _ (by decide) rfl ?_
    refine OpJ.callV a3 (fun _ _ => rfl) rfl rfl rfl ?_
    (repeat (first | refine Spl.t rfl ?_ | refine Spl.f rfl ?_))
    exact ⟨3, by decide, by decide, (by repeat' (first | exact trivial | exact rfl | refine And.intro ?_ ?_)), (by repeat' (first | exact trivial | exact rfl | refine And.intro ?_ ?_)), (by repeat' (first | exact trivial | exact rfl | refine And.intro ?_ ?_)), (by repeat' (first | exact trivial | exact rfl | refine And.intro ?_ ?_))⟩
  · (repeat (first | refine Spl.t rfl ?_ | refine Spl.f rfl ?_))
    (first | refine Sq.go ?_ | refine vL_nil (Sq.go ?_) | skip)
    try refine WJ.cut ?_
    refine OpJ.callV Awake3_c (fun _ _ => rfl) rfl rfl rfl ?_
    (repeat (first | refine Spl.t rfl ?_ | refine Spl.f rfl ?_))
    refine OpJ.callV Awake4_c (fun _ _ => rfl) rfl rfl rfl ?_
    (repeat (first | refine Spl.t rfl ?_ | refine Spl.f rfl ?_))
    refine OpJ.callV Awake5_c (fun _ _ => rfl) rfl rfl rfl ?_
    (repeat (first | refine Spl.t rfl ?_ | refine Spl.f rfl ?_))
    refine OpJ.callV tx (fun _ _ => rfl) rfl rfl rfl ?_
    (repeat (first | refine Spl.t rfl ?_ | refine Spl.f rfl ?_))
    (first | refine Sq.go ?_ | refine vL_nil (Sq.go ?_) | skip)
    try refine vc_sound _ _ _ _ ?_
    exact FinP.open rfl rfl
def fullO (i : Nat) : OP := ⟨0, ⟨(i : Int) + 1, 1⟩, ⟨0, 0⟩, 120⟩
def fullL (n : Nat) : List OP := (List.range n).map fullO
theorem fullL_succ (n : Nat) : fullL (n + 1) = fullL n ++ [fullO n] := by unfold fullL; rw [List.range_succ, List.map_append]; rfl
theorem insL_full (n : Nat) : (insL (fullL n)).length = n := by
  have : insL (fullL n) = fullL n := by
    unfold insL
    exact List.filter_eq_self.2 fun o ho => by
      unfold fullL at ho
      obtain ⟨j, _, rfl⟩ := List.mem_map.1 ho
      rfl
  rw [this]; unfold fullL; rw [List.length_map, List.length_range]
theorem check_full (i : Nat) (h : i ≤ 5000) : checkO (fullO i) = 0 := by
  have m : mayI (fullO i).i = true := by unfold mayI fullO; simp only [decide_eq_true_eq]; omega
  have n : noneI (fullO i).a = true := rfl
  unfold checkO
  rw [if_neg (by unfold fullO; simp), if_neg (by unfold fullO; simp), if_neg (by rw [m, n]; simp), if_neg (by rw [n]; simp), if_neg (by unfold fullO; simp)]
theorem wrong_full (m i : Nat) (h : m ≤ i) (hi : i ≤ 5000) : wrongO (fullL m) (fullO i) = if 4096 ≤ m then 7 else 0 := by
  have hf : findO 0 (fullO i).i (fullL m) = none := by
    cases hz : findO 0 (fullO i).i (fullL m) with
    | none => rfl
    | some x =>
      obtain ⟨x1, x2, x3⟩ := findO_some hz
      unfold fullL at x1
      obtain ⟨j, hj, rfl⟩ := List.mem_map.1 x1
      have := List.mem_range.1 hj
      have h5 := congrArg ID.c x3
      unfold fullO at h5
      simp only at h5
      omega
  unfold wrongO
  rw [if_neg (fun e => e (check_full i hi)), if_neg (by unfold fullO; simp), hf, if_neg (by simp), if_neg (by simp), if_neg (by unfold fullO; simp), insL_full]
theorem app_full (i : Nat) (hi : i ≤ 5000) : appL (fullL (min i 4096)) (fullO i) = fullL (min (i + 1) 4096) := by
  unfold appL
  rw [wrong_full _ _ (by omega) hi]
  by_cases h : 4096 ≤ i
  · rw [Nat.min_eq_right h, Nat.min_eq_right (by omega)]; rfl
  · rw [Nat.min_eq_left (by omega), Nat.min_eq_left (by omega), if_neg h, if_pos rfl, fullL_succ]
end Go.Proofs.E
end
section
open Go Go.Gv
attribute [local irreducible] Go.Gv.WJ Go.Gv.OpJ Go.Gv.QJ Go.Gv.Spl Go.Gv.Req Go.Gv.IdxP Go.Gv.RegP Go.Gv.FinP Go.Gv.CellP Go.Gv.CellsP Go.Gv.ArrP Go.Gv.ArrsP Go.Gv.DropP Go.Gv.ByteP Go.Gv.StoreP
set_option maxRecDepth 100000
namespace Go.Proofs.E
theorem w32 (x : Int) (h : -2147483648 ≤ x) (h' : x ≤ 2147483647) : IntKind.i32.wrap x = x := by
  simp only [IntKind.wrap, IntKind.signed, IntKind.bits]; simp; omega
theorem bq (b u m : Int) (hb : 0 ≤ b) (hu : 0 ≤ u) (hu2 : u ≤ 1114111) (hm : 0 < m) (h : b + u / m < 256) : IntKind.u8.wrap (IntKind.i32.wrap (b + IntKind.i32.wrap (u.tdiv m))) = b + u / m := by
  have h1 : 0 ≤ u / m := Int.ediv_nonneg hu (by omega)
  rw [Int.tdiv_eq_ediv_of_nonneg hu, w32 (u / m) (by omega) (by omega), w32 _ (by omega) (by omega), wrap_u8', Int.emod_eq_of_lt (by omega) h]
theorem bm (u : Int) (hu : 0 ≤ u) (hu2 : u ≤ 1114111) : IntKind.u8.wrap (IntKind.i32.wrap (128 + u.tmod 64)) = 128 + u % 64 := by
  rw [Int.tmod_eq_emod_of_nonneg hu, w32 _ (by omega) (by omega), wrap_u8', Int.emod_eq_of_lt (by omega) (by omega)]
theorem bqm (u m : Int) (hu : 0 ≤ u) (hu2 : u ≤ 1114111) (hm : 0 < m) : IntKind.u8.wrap (IntKind.i32.wrap (128 + (IntKind.i32.wrap (u.tdiv m)).tmod 64)) = 128 + u / m % 64 := by
  have h1 : 0 ≤ u / m := Int.ediv_nonneg hu (by omega)
  have h2 : u / m ≤ u := Int.ediv_le_self _ hu
  rw [Int.tdiv_eq_ediv_of_nonneg hu, w32 (u / m) (by omega) (by omega), bm _ h1 (by omega)]
theorem strOf_byt (xs : List Int) : AV.d (.v (.string (strOf xs))) = sv (byt xs) := rfl
theorem Char_c (v : Int) (h0 : -2147483648 ≤ v) (h1 : v ≤ 2147483647) : Cv 155 [cv' v] (sv (byt (Lib.encodeRuneZ v))) := by
  by_cases hok : 0 ≤ v ∧ v ≤ 1114111 ∧ ¬ (55296 ≤ v ∧ v ≤ 57343)
  · obtain ⟨hU0, hU1, hUs⟩ := hok
    have hUe : Lib.encodeRuneZ v = Lib.encodeRuneZ v := rfl
    refine Ct.of_vc Tryz.f155 Tryz.func155 rfl rfl fun w H B g0 => ?_
    refine Spl.f (decide_eq_false (by omega)) ?_
    (repeat (first | refine Spl.t rfl ?_ | refine Spl.f rfl ?_))
    refine Spl.f (decide_eq_false (by omega)) ?_
    (repeat (first | refine Spl.t rfl ?_ | refine Spl.f rfl ?_))
    refine Spl.of (fun g => ?_) (fun g => ?_)
    · have g := of_decide_eq_true g
      (repeat (first | refine Spl.t rfl ?_ | refine Spl.f rfl ?_))
      refine Spl.f (decide_eq_false (by omega)) ?_
      (repeat (first | refine Spl.t rfl ?_ | refine Spl.f rfl ?_))
      (have q1 := bq 192 v 64; have q2 := bq 224 v 4096; have q3 := bq 240 v 262144; have m0 := bm v hU0 hU1; have m1 := bqm v 64 hU0 hU1 (by decide); have m2 := bqm v 4096 hU0 hU1 (by decide); refine Spl.of (fun g1 => ?_) (fun g1 => ?_); (have g1 := of_decide_eq_true g1; (repeat (first | refine Spl.t rfl ?_ | refine Spl.f rfl ?_)); refine OpJ.qu (O.bytesStr (ns := [IntKind.u8.wrap v]) rfl rfl rfl rfl rfl rfl) rfl ?_; refine FinP.open rfl ?_; show AV.d (.v (.string (strOf [IntKind.u8.wrap v]))) = _; rw [hUe, Lib.encodeRuneZ_one hU0 (by omega), wrap_u8', Int.emod_eq_of_lt hU0 (by omega)]; rfl); (have g1 := of_decide_eq_false g1; (repeat (first | refine Spl.t rfl ?_ | refine Spl.f rfl ?_)); refine Spl.of (fun g2 => ?_) (fun g2 => ?_); (have g2 := of_decide_eq_true g2; (repeat (first | refine Spl.t rfl ?_ | refine Spl.f rfl ?_)); refine Req.of (by decide) ?_; refine Req.of (by decide) ?_; refine OpJ.qu (O.bytesStr (ns := [IntKind.u8.wrap (IntKind.i32.wrap (192 + IntKind.i32.wrap (v.tdiv 64))), IntKind.u8.wrap (IntKind.i32.wrap (128 + v.tmod 64))]) rfl rfl rfl rfl rfl rfl) rfl ?_; refine FinP.open rfl ?_; show AV.d (.v (.string (strOf [_, _]))) = _; rw [hUe, Lib.encodeRuneZ_two (by omega) (by omega), q1 (by omega) hU0 hU1 (by decide) (by omega), m0]; rfl); (have g2 := of_decide_eq_false g2; (repeat (first | refine Spl.t rfl ?_ | refine Spl.f rfl ?_)); refine Spl.of (fun g3 => ?_) (fun g3 => ?_); (have g3 := of_decide_eq_true g3; (repeat (first | refine Spl.t rfl ?_ | refine Spl.f rfl ?_)); refine Req.of (by decide) ?_; refine Req.of (by decide) ?_; refine Req.of (by decide) ?_; refine Req.of (by decide) ?_; refine OpJ.qu (O.bytesStr (ns := [IntKind.u8.wrap (IntKind.i32.wrap (224 + IntKind.i32.wrap (v.tdiv 4096))), IntKind.u8.wrap (IntKind.i32.wrap (128 + (IntKind.i32.wrap (v.tdiv 64)).tmod 64)), IntKind.u8.wrap (IntKind.i32.wrap (128 + v.tmod 64))]) rfl rfl rfl rfl rfl rfl) rfl ?_; refine FinP.open rfl ?_; show AV.d (.v (.string (strOf [_, _, _]))) = _; rw [hUe, Lib.encodeRuneZ_three (by omega), q2 (by omega) hU0 hU1 (by decide) (by omega), m0, m1]; rfl); (have g3 := of_decide_eq_false g3; (repeat (first | refine Spl.t rfl ?_ | refine Spl.f rfl ?_)); refine Req.of (by decide) ?_; refine Req.of (by decide) ?_; refine Req.of (by decide) ?_; refine Req.of (by decide) ?_; refine Req.of (by decide) ?_; refine Req.of (by decide) ?_; refine OpJ.qu (O.bytesStr (ns := [IntKind.u8.wrap (IntKind.i32.wrap (240 + IntKind.i32.wrap (v.tdiv 262144))), IntKind.u8.wrap (IntKind.i32.wrap (128 + (IntKind.i32.wrap (v.tdiv 4096)).tmod 64)), IntKind.u8.wrap (IntKind.i32.wrap (128 + (IntKind.i32.wrap (v.tdiv 64)).tmod 64)), IntKind.u8.wrap (IntKind.i32.wrap (128 + v.tmod 64))]) rfl rfl rfl rfl rfl rfl) rfl ?_; refine FinP.open rfl ?_; show AV.d (.v (.string (strOf [_, _, _, _]))) = _; rw [hUe, Lib.encodeRuneZ_four (by omega) (by omega), q3 (by omega) hU0 hU1 (by decide) (by omega), m0, m1, m2]; rfl))))
    · (repeat (first | refine Spl.t rfl ?_ | refine Spl.f rfl ?_))
      (have q1 := bq 192 v 64; have q2 := bq 224 v 4096; have q3 := bq 240 v 262144; have m0 := bm v hU0 hU1; have m1 := bqm v 64 hU0 hU1 (by decide); have m2 := bqm v 4096 hU0 hU1 (by decide); refine Spl.of (fun g1 => ?_) (fun g1 => ?_); (have g1 := of_decide_eq_true g1; (repeat (first | refine Spl.t rfl ?_ | refine Spl.f rfl ?_)); refine OpJ.qu (O.bytesStr (ns := [IntKind.u8.wrap v]) rfl rfl rfl rfl rfl rfl) rfl ?_; refine FinP.open rfl ?_; show AV.d (.v (.string (strOf [IntKind.u8.wrap v]))) = _; rw [hUe, Lib.encodeRuneZ_one hU0 (by omega), wrap_u8', Int.emod_eq_of_lt hU0 (by omega)]; rfl); (have g1 := of_decide_eq_false g1; (repeat (first | refine Spl.t rfl ?_ | refine Spl.f rfl ?_)); refine Spl.of (fun g2 => ?_) (fun g2 => ?_); (have g2 := of_decide_eq_true g2; (repeat (first | refine Spl.t rfl ?_ | refine Spl.f rfl ?_)); refine Req.of (by decide) ?_; refine Req.of (by decide) ?_; refine OpJ.qu (O.bytesStr (ns := [IntKind.u8.wrap (IntKind.i32.wrap (192 + IntKind.i32.wrap (v.tdiv 64))), IntKind.u8.wrap (IntKind.i32.wrap (128 + v.tmod 64))]) rfl rfl rfl rfl rfl rfl) rfl ?_; refine FinP.open rfl ?_; show AV.d (.v (.string (strOf [_, _]))) = _; rw [hUe, Lib.encodeRuneZ_two (by omega) (by omega), q1 (by omega) hU0 hU1 (by decide) (by omega), m0]; rfl); (have g2 := of_decide_eq_false g2; (repeat (first | refine Spl.t rfl ?_ | refine Spl.f rfl ?_)); refine Spl.of (fun g3 => ?_) (fun g3 => ?_); (have g3 := of_decide_eq_true g3; (repeat (first | refine Spl.t rfl ?_ | refine Spl.f rfl ?_)); refine Req.of (by decide) ?_; refine Req.of (by decide) ?_; refine Req.of (by decide) ?_; refine Req.of (by decide) ?_; refine OpJ.qu (O.bytesStr (ns := [IntKind.u8.wrap (IntKind.i32.wrap (224 + IntKind.i32.wrap (v.tdiv 4096))), IntKind.u8.wrap (IntKind.i32.wrap (128 + (IntKind.i32.wrap (v.tdiv 64)).tmod 64)), IntKind.u8.wrap (IntKind.i32.wrap (128 + v.tmod 64))]) rfl rfl rfl rfl rfl rfl) rfl ?_; refine FinP.open rfl ?_; show AV.d (.v (.string (strOf [_, _, _]))) = _; rw [hUe, Lib.encodeRuneZ_three (by omega), q2 (by omega) hU0 hU1 (by decide) (by omega), m0, m1]; rfl); (have g3 := of_decide_eq_false g3; (repeat (first | refine Spl.t rfl ?_ | refine Spl.f rfl ?_)); refine Req.of (by decide) ?_; refine Req.of (by decide) ?_; refine Req.of (by decide) ?_; refine Req.of (by decide) ?_; refine Req.of (by decide) ?_; refine Req.of (by decide) ?_; refine OpJ.qu (O.bytesStr (ns := [IntKind.u8.wrap (IntKind.i32.wrap (240 + IntKind.i32.wrap (v.tdiv 262144))), IntKind.u8.wrap (IntKind.i32.wrap (128 + (IntKind.i32.wrap (v.tdiv 4096)).tmod 64)), IntKind.u8.wrap (IntKind.i32.wrap (128 + (IntKind.i32.wrap (v.tdiv 64)).tmod 64)), IntKind.u8.wrap (IntKind.i32.wrap (128 + v.tmod 64))]) rfl rfl rfl rfl rfl rfl) rfl ?_; refine FinP.open rfl ?_; show AV.d (.v (.string (strOf [_, _, _, _]))) = _; rw [hUe, Lib.encodeRuneZ_four (by omega) (by omega), q3 (by omega) hU0 hU1 (by decide) (by omega), m0, m1, m2]; rfl))))
  · refine Ct.of_vc Tryz.f155 Tryz.func155 rfl rfl fun w H B g0 => ?_
    refine Spl.of (fun g => ?_) (fun g => ?_)
    · (repeat (first | refine Spl.t rfl ?_ | refine Spl.f rfl ?_))
      ((repeat (first | refine Spl.t rfl ?_ | refine Spl.f rfl ?_)); refine Req.of (by decide) ?_; refine Req.of (by decide) ?_; refine Req.of (by decide) ?_; refine Req.of (by decide) ?_; refine OpJ.qu (O.bytesStr (ns := [239, 191, 189]) rfl rfl rfl rfl rfl rfl) rfl ?_; refine FinP.open rfl ?_; show AV.d (.v (.string (strOf [239, 191, 189]))) = _; rw [Lib.encodeRuneZ_bad (by omega)]; rfl)
    · have g := of_decide_eq_false g
      (repeat (first | refine Spl.t rfl ?_ | refine Spl.f rfl ?_))
      refine Spl.of (fun g4 => ?_) (fun g4 => ?_)
      · (repeat (first | refine Spl.t rfl ?_ | refine Spl.f rfl ?_))
        ((repeat (first | refine Spl.t rfl ?_ | refine Spl.f rfl ?_)); refine Req.of (by decide) ?_; refine Req.of (by decide) ?_; refine Req.of (by decide) ?_; refine Req.of (by decide) ?_; refine OpJ.qu (O.bytesStr (ns := [239, 191, 189]) rfl rfl rfl rfl rfl rfl) rfl ?_; refine FinP.open rfl ?_; show AV.d (.v (.string (strOf [239, 191, 189]))) = _; rw [Lib.encodeRuneZ_bad (by omega)]; rfl)
      · have g4 := of_decide_eq_false g4
        (repeat (first | refine Spl.t rfl ?_ | refine Spl.f rfl ?_))
        refine Spl.t (decide_eq_true (by omega)) ?_
        (repeat (first | refine Spl.t rfl ?_ | refine Spl.f rfl ?_))
        refine Spl.t (decide_eq_true (by omega)) ?_
        (repeat (first | refine Spl.t rfl ?_ | refine Spl.f rfl ?_))
        ((repeat (first | refine Spl.t rfl ?_ | refine Spl.f rfl ?_)); refine Req.of (by decide) ?_; refine Req.of (by decide) ?_; refine Req.of (by decide) ?_; refine Req.of (by decide) ?_; refine OpJ.qu (O.bytesStr (ns := [239, 191, 189]) rfl rfl rfl rfl rfl rfl) rfl ?_; refine FinP.open rfl ?_; show AV.d (.v (.string (strOf [239, 191, 189]))) = _; rw [Lib.encodeRuneZ_bad (by omega)]; rfl)
theorem rank_snoc {L : List EL} {i : Nat} {e : EL} (h : L[i]? = some e) : rankL L ((i + 1 : Nat) : Int) = rankL L (i : Int) + TR.one e := by
  unfold rankL
  rw [Int.toNat_natCast, Int.toNat_natCast, take_snoc h, List.filter_append, List.length_append, List.filter_cons, one_le]
  cases e.dead <;> simp
theorem rank_le (L : List EL) (i : Int) : rankL L i ≤ L.length := by
  unfold rankL
  exact Nat.le_trans (List.length_filter_le _ _) (by rw [List.length_take]; omega)
theorem RRank_c (L : List EL) (i : Int) (hL : L.length ≤ 1000000) : Cv 24 [.d (.sl 4 (L.map elD)), iv i] (iv (rankL L i)) := by
  have fin : ∀ k : Nat, k ≤ L.length → ¬ ((k : Int) < L.length ∧ (k : Int) < i) → (k = 0 ∨ (k : Int) ≤ i) → (rankL L (k : Int) : Int) = (rankL L i : Int) := fun k hk hn hi => by
    have : rankL L (k : Int) = rankL L i := by
      unfold rankL
      rw [Int.toNat_natCast]
      by_cases h : k = L.length
      · rw [h, List.take_length, List.take_of_length_le (by omega)]
      · have : i.toNat = k := by omega
        rw [this]
    rw [this]
  refine Ct.of_vc Tryz.f24 Tryz.func24 rfl rfl fun w H B g0 => ?_
  refine WJ.loopK (V := Nat) (fun k => [(6, iv k), (5, iv (rankL L (k : Int)))]) (fun _ => []) [] (fun k => L.length - k) (fun k => k ≤ L.length ∧ (k = 0 ∨ (k : Int) ≤ i)) 0 ⟨by omega, .inl rfl⟩ ⟨rfl, some_iv (by simp [rankL]), trivial⟩ (by repeat' (first | exact trivial | exact rfl | refine And.intro ?_ ?_)) ?_
  rintro k ⟨hk, hki⟩
  have hr := rank_le L (k : Int)
  refine Spl.of (fun h1 => ?_) (fun h1 => ?_)
  · have hlt : k < L.length := by have := of_decide_eq_true h1; simp at this; omega
    have hx : L[k]? = some L[k] := by simp
    (repeat (first | refine Spl.t rfl ?_ | refine Spl.f rfl ?_))
    refine Spl.of (fun h2 => ?_) (fun h2 => ?_)
    · have h2 := of_decide_eq_true h2
      have hsn := rank_snoc hx
      rw [one_le] at hsn
      (repeat (first | refine Spl.t rfl ?_ | refine Spl.f rfl ?_))
      refine IdxP.of (elD L[k]) (by omega) (by simp [hx]) ?_
      refine Spl.of (fun h3 => ?_) (fun h3 => ?_)
      · have h3 : L[k].dead = false := by simpa using h3
        rw [if_neg (by rw [h3]; decide)] at hsn
        (repeat (first | refine Spl.t rfl ?_ | refine Spl.f rfl ?_))
        exact ⟨k + 1, ⟨by omega, .inr (by omega)⟩, by omega, ⟨some_iv (wrap_id _ (by omega) (by omega)), some_iv (by rw [wrap_id _ (by omega) (by omega), hsn]; omega), trivial⟩, (by repeat' (first | exact trivial | exact rfl | refine And.intro ?_ ?_)), (by repeat' (first | exact trivial | exact rfl | refine And.intro ?_ ?_)), (by repeat' (first | exact trivial | exact rfl | refine And.intro ?_ ?_))⟩
      · have h3 : L[k].dead = true := by simpa using h3
        rw [if_pos h3] at hsn
        (repeat (first | refine Spl.t rfl ?_ | refine Spl.f rfl ?_))
        exact ⟨k + 1, ⟨by omega, .inr (by omega)⟩, by omega, ⟨some_iv (wrap_id _ (by omega) (by omega)), some_iv (by rw [hsn]; rfl), trivial⟩, (by repeat' (first | exact trivial | exact rfl | refine And.intro ?_ ?_)), (by repeat' (first | exact trivial | exact rfl | refine And.intro ?_ ?_)), (by repeat' (first | exact trivial | exact rfl | refine And.intro ?_ ?_))⟩
    · have h2 := of_decide_eq_false h2
      (repeat (first | refine Spl.t rfl ?_ | refine Spl.f rfl ?_))
      exact FinP.open rfl (congrArg iv (fin k hk (by omega) hki))
  · have h1 := of_decide_eq_false h1
    simp at h1
    (repeat (first | refine Spl.t rfl ?_ | refine Spl.f rfl ?_))
    exact FinP.open rfl (congrArg iv (fin k hk (by omega) hki))
theorem RText3_c (L : List EL) (hL : L.length ≤ 1000000) (hok : ∀ e, e ∈ L → okE e) : Cv 127 [.d (.sl 4 (L.map elD))] (sv (byt (txtZ L))) := by
  have hb : ∀ a b : List Int, byt (a ++ b) = byt a ++ byt b := fun a b => by unfold byt; rw [List.map_append]
  refine Ct.of_vc Tryz.f127 Tryz.func127 rfl rfl fun w H B g0 => ?_
  refine WJ.loopK (V := Nat) (fun k => [(4, iv k), (3, sv (byt (txtZ (L.take k))))]) (fun _ => []) [] (fun k => L.length - k) (fun k => k ≤ L.length) 0 (by omega) ⟨rfl, rfl, trivial⟩ (by repeat' (first | exact trivial | exact rfl | refine And.intro ?_ ?_)) ?_
  intro k hk
  refine Spl.of (fun h1 => ?_) (fun h1 => ?_)
  · have hlt : k < L.length := by have := of_decide_eq_true h1; simp at this; omega
    have hx : L[k]? = some L[k] := by simp
    have hlen : (byt (txtZ (L.take k))).length ≤ 4 * L.length := by
      unfold byt
      rw [List.length_map]
      have := txtZ_len (L.take k)
      rw [List.length_take] at this
      omega
    have henc := Lib.encodeRuneZ_length L[k].ch
    have hsn : txtZ (L.take (k + 1)) = txtZ (L.take k) ++ (if L[k].dead = true then [] else Lib.encodeRuneZ L[k].ch) := by
      rw [take_snoc hx, txtZ_app]
      congr 1
      rw [txtZ]
      split <;> simp [txtZ]
    (repeat (first | refine Spl.t rfl ?_ | refine Spl.f rfl ?_))
    refine IdxP.of (elD L[k]) (by omega) (by simp [hx]) ?_
    refine Spl.of (fun h3 => ?_) (fun h3 => ?_)
    · have h3 : L[k].dead = false := by simpa using h3
      rw [if_neg (by rw [h3]; decide)] at hsn
      obtain ⟨o1, o2⟩ := hok L[k] (List.getElem_mem hlt)
      (repeat (first | refine Spl.t rfl ?_ | refine Spl.f rfl ?_))
      refine IdxP.of (elD L[k]) (by omega) (by simp [hx]) ?_
      refine OpJ.callV (Char_c L[k].ch o1 o2) (fun _ _ => rfl) rfl rfl rfl ?_
      refine Req.of (by show (byt (txtZ (L.take k))).length + (byt (Lib.encodeRuneZ L[k].ch)).length ≤ _; have : (byt (Lib.encodeRuneZ L[k].ch)).length ≤ 4 := (by unfold byt; rw [List.length_map]; omega); omega) ?_
      exact ⟨k + 1, by omega, by omega, ⟨some_iv (wrap_id _ (by omega) (by omega)), some_sv (by rw [hsn, hb]), trivial⟩, (by repeat' (first | exact trivial | exact rfl | refine And.intro ?_ ?_)), (by repeat' (first | exact trivial | exact rfl | refine And.intro ?_ ?_)), (by repeat' (first | exact trivial | exact rfl | refine And.intro ?_ ?_))⟩
    · have h3 : L[k].dead = true := by simpa using h3
      rw [if_pos h3, List.append_nil] at hsn
      (repeat (first | refine Spl.t rfl ?_ | refine Spl.f rfl ?_))
      exact ⟨k + 1, by omega, by omega, ⟨some_iv (wrap_id _ (by omega) (by omega)), some_sv (by rw [hsn]), trivial⟩, (by repeat' (first | exact trivial | exact rfl | refine And.intro ?_ ?_)), (by repeat' (first | exact trivial | exact rfl | refine And.intro ?_ ?_)), (by repeat' (first | exact trivial | exact rfl | refine And.intro ?_ ?_))⟩
  · have h1 := of_decide_eq_false h1
    simp at h1
    (repeat (first | refine Spl.t rfl ?_ | refine Spl.f rfl ?_))
    exact FinP.open rfl (by rw [List.take_of_length_le (by omega)]; rfl)
end Go.Proofs.E
end
section
open Go Go.Gv
attribute [local irreducible] Go.Gv.WJ Go.Gv.OpJ Go.Gv.QJ Go.Gv.Spl Go.Gv.Req Go.Gv.IdxP Go.Gv.RegP Go.Gv.FinP Go.Gv.CellP Go.Gv.CellsP Go.Gv.ArrP Go.Gv.ArrsP Go.Gv.DropP Go.Gv.ByteP Go.Gv.StoreP
set_option maxRecDepth 100000
namespace Go.Proofs.E
theorem rank_all (L : List EL) : rankL L (L.length : Int) = liveL L := by unfold rankL liveL; rw [Int.toNat_natCast, List.take_length]
end Go.Proofs.E
end
section
open Go Go.Gv
attribute [local irreducible] Go.Gv.WJ Go.Gv.OpJ Go.Gv.QJ Go.Gv.Spl Go.Gv.Req Go.Gv.IdxP Go.Gv.RegP Go.Gv.FinP Go.Gv.CellP Go.Gv.CellsP Go.Gv.ArrP Go.Gv.ArrsP Go.Gv.DropP Go.Gv.ByteP Go.Gv.StoreP
set_option maxRecDepth 100000
namespace Go.Proofs.E
/-- The place of the first operation of a kind and an id. -/
def hasIx (k : Int) (a : ID) : List OP → Int
  | [] => -1
  | o :: r => if o.k = k ∧ o.i = a then 0 else (if hasIx k a r < 0 then -1 else hasIx k a r + 1)
theorem hasIx_at {k : Int} {a : ID} : ∀ {l : List OP} {n : Nat} {o : OP}, l[n]? = some o → o.k = k ∧ o.i = a → (∀ j x, j < n → l[j]? = some x → ¬ (x.k = k ∧ x.i = a)) → hasIx k a l = n ∧ findO k a l = some o
  | [], n, o, h, _, _ => by simp at h
  | x :: r, 0, o, h, ho, _ => by
    simp at h; subst h
    rw [hasIx, if_pos ho, findO, if_pos ho]; exact ⟨rfl, rfl⟩
  | x :: r, n + 1, o, h, ho, hn => by
    have h0 := hn 0 x (by omega) rfl
    obtain ⟨h1, h2⟩ := hasIx_at (l := r) (n := n) (by simpa using h) ho fun j y hj hy => hn (j + 1) y (by omega) (by simpa using hy)
    rw [hasIx, if_neg h0, findO, if_neg h0, h1, if_neg (by omega), h2]
    exact ⟨by simp, rfl⟩
theorem hasIx_none {k : Int} {a : ID} : ∀ {l : List OP}, (∀ (j : Nat) (x : OP), l[j]? = some x → ¬ (x.k = k ∧ x.i = a)) → hasIx k a l = -1 ∧ findO k a l = none
  | [], _ => ⟨rfl, rfl⟩
  | x :: r, hn => by
    have h0 := hn 0 x rfl
    obtain ⟨h1, h2⟩ := hasIx_none (l := r) fun j y hy => hn (j + 1) y (by simpa using hy)
    rw [hasIx, if_neg h0, findO, if_neg h0, h1, h2]; exact ⟨rfl, rfl⟩
theorem hasIx_is (k : Int) (a : ID) (l : List OP) : (hasIx k a l = -1 ∧ findO k a l = none) ∨ ∃ (n : Nat) (o : OP), hasIx k a l = n ∧ l[n]? = some o ∧ findO k a l = some o := by
  by_cases h : ∃ (n : Nat) (o : OP), l[n]? = some o ∧ (o.k = k ∧ o.i = a)
  · right
    obtain ⟨n, o, h1, h2⟩ := h
    induction l generalizing n with
    | nil => simp at h1
    | cons x r ih =>
      by_cases hx : x.k = k ∧ x.i = a
      · exact ⟨0, x, by rw [hasIx, if_pos hx]; rfl, rfl, by rw [findO, if_pos hx]⟩
      · cases n with
        | zero => simp at h1; subst h1; exact absurd h2 hx
        | succ n =>
          obtain ⟨m, y, h3, h4, h5⟩ := ih n (by simpa using h1)
          exact ⟨m + 1, y, by rw [hasIx, if_neg hx, h3, if_neg (by omega)]; simp, by simpa using h4, by rw [findO, if_neg hx, h5]⟩
  · left
    exact hasIx_none fun j x hj hx => h ⟨j, x, hj, hx⟩
theorem RHas_c (l : List OP) (k : Int) (a : ID) (hl : l.length ≤ 1000000) : Cv 152 [.d (.sl 6 (l.map opD)), iv k, idv a] (iv (hasIx k a l)) := by
  refine Ct.of_vc Tryz.f152 Tryz.func152 rfl rfl fun w H B g0 => ?_
  refine WJ.loopK (V := Nat) (fun i => [(7, iv i)]) (fun _ => []) [] (fun i => l.length - i) (fun i => i ≤ l.length ∧ ∀ (j : Nat) (y : OP), j < i → l[j]? = some y → ¬ (y.k = k ∧ y.i = a)) 0 ⟨by omega, fun j y h => by omega⟩ (by repeat' (first | exact trivial | exact rfl | refine And.intro ?_ ?_)) (by repeat' (first | exact trivial | exact rfl | refine And.intro ?_ ?_)) ?_
  intro i ⟨hi, hne⟩
  refine Spl.of (fun h1 => ?_) (fun h1 => ?_)
  · have hlt : i < l.length := by have := of_decide_eq_true h1; simp at this; omega
    have hx : l[i]? = some l[i] := by simp
    have next : ¬ (l[i].k = k ∧ l[i].i = a) → ∀ (j : Nat) (y : OP), j < i + 1 → l[j]? = some y → ¬ (y.k = k ∧ y.i = a) := fun hn j y hj hy => by
      by_cases h : j = i
      · subst h; rw [hx] at hy; cases hy; exact hn
      · exact hne j y (by omega) hy
    (repeat (first | refine Spl.t rfl ?_ | refine Spl.f rfl ?_))
    refine RegP.of rfl (by decide +kernel) ?_
    refine IdxP.of (opD l[i]) (by omega) (by simp [hx]) ?_
    refine Spl.of (fun h2 => ?_) (fun h2 => ?_)
    · have h2 : l[i].k = k := of_decide_eq_true h2
      (repeat (first | refine Spl.t rfl ?_ | refine Spl.f rfl ?_))
      refine IdxP.of (opD l[i]) (by omega) (by simp [hx]) ?_
      (repeat (first | refine Spl.t rfl ?_ | refine Spl.f rfl ?_))
      refine QuietP.of (O.eqT 3 rfl rfl rfl rfl rfl eqR_ok eqR_g (eqR l[i].i a)) ?_
      (repeat (first | refine Spl.t rfl ?_ | refine Spl.f rfl ?_))
      refine Spl.of (fun h3 => ?_) (fun h3 => ?_)
      · have h3 : l[i].i = a := of_decide_eq_true h3
        (repeat (first | refine Spl.t rfl ?_ | refine Spl.f rfl ?_))
        refine FinP.open rfl (congrArg iv ?_)
        exact (hasIx_at hx ⟨h2, h3⟩ hne).1.symm
      · have h3 : ¬ l[i].i = a := of_decide_eq_false h3
        (repeat (first | refine Spl.t rfl ?_ | refine Spl.f rfl ?_))
        exact ⟨i + 1, ⟨by omega, next fun e => h3 e.2⟩, by omega, ⟨some_iv (wrap_id _ (by omega) (by omega)), trivial⟩, (by repeat' (first | exact trivial | exact rfl | refine And.intro ?_ ?_)), (by repeat' (first | exact trivial | exact rfl | refine And.intro ?_ ?_)), (by repeat' (first | exact trivial | exact rfl | refine And.intro ?_ ?_))⟩
    · have h2 : ¬ l[i].k = k := of_decide_eq_false h2
      (repeat (first | refine Spl.t rfl ?_ | refine Spl.f rfl ?_))
      exact ⟨i + 1, ⟨by omega, next fun e => h2 e.1⟩, by omega, ⟨some_iv (wrap_id _ (by omega) (by omega)), trivial⟩, (by repeat' (first | exact trivial | exact rfl | refine And.intro ?_ ?_)), (by repeat' (first | exact trivial | exact rfl | refine And.intro ?_ ?_)), (by repeat' (first | exact trivial | exact rfl | refine And.intro ?_ ?_))⟩
  · have h1 := of_decide_eq_false h1
    simp at h1
    (repeat (first | refine Spl.t rfl ?_ | refine Spl.f rfl ?_))
    refine FinP.open rfl (congrArg iv ?_)
    exact (hasIx_none fun j x hj => hne j x (by have := (List.getElem?_eq_some_iff.1 hj).1; omega) hj).1.symm
theorem RPlace_c (L : List EL) (a : ID) (hL : L.length ≤ 1000000) : Cv 20 [.d (.sl 4 (L.map elD)), idv a] (iv (placeL a L)) := by
  refine Ct.of_vc Tryz.f20 Tryz.func20 rfl rfl fun w H B g0 => ?_
  refine WJ.loopK (V := Nat) (fun i => [(5, iv i)]) (fun _ => []) [] (fun i => L.length - i) (fun i => i ≤ L.length ∧ ∀ (j : Nat) (y : EL), j < i → L[j]? = some y → y.id ≠ a) 0 ⟨by omega, fun j y h => by omega⟩ (by repeat' (first | exact trivial | exact rfl | refine And.intro ?_ ?_)) (by repeat' (first | exact trivial | exact rfl | refine And.intro ?_ ?_)) ?_
  intro i ⟨hi, hne⟩
  refine Spl.of (fun h1 => ?_) (fun h1 => ?_)
  · have hlt : i < L.length := by have := of_decide_eq_true h1; simp at this; omega
    have hx : L[i]? = some L[i] := by simp
    (repeat (first | refine Spl.t rfl ?_ | refine Spl.f rfl ?_))
    refine RegP.of rfl (by decide +kernel) ?_
    refine IdxP.of (elD L[i]) (by omega) (by simp [hx]) ?_
    refine QuietP.of (O.eqT 3 rfl rfl rfl rfl rfl eqR_ok eqR_g (eqR L[i].id a)) ?_
    refine Spl.of (fun h2 => ?_) (fun h2 => ?_)
    · have he : L[i].id = a := of_decide_eq_true h2
      (repeat (first | refine Spl.t rfl ?_ | refine Spl.f rfl ?_))
      refine FinP.open rfl (congrArg iv ?_)
      exact (placeL_at hx he hne).symm
    · have he : ¬ L[i].id = a := of_decide_eq_false h2
      (repeat (first | refine Spl.t rfl ?_ | refine Spl.f rfl ?_))
      exact ⟨i + 1, ⟨by omega, fun j y hj hy => by
        by_cases h : j = i
        · subst h; rw [hx] at hy; cases hy; exact he
        · exact hne j y (by omega) hy⟩, by omega, ⟨some_iv (wrap_id _ (by omega) (by omega)), trivial⟩, (by repeat' (first | exact trivial | exact rfl | refine And.intro ?_ ?_)), (by repeat' (first | exact trivial | exact rfl | refine And.intro ?_ ?_)), (by repeat' (first | exact trivial | exact rfl | refine And.intro ?_ ?_))⟩
  · have h1 := of_decide_eq_false h1
    simp at h1
    (repeat (first | refine Spl.t rfl ?_ | refine Spl.f rfl ?_))
    refine FinP.open rfl (congrArg iv ?_)
    exact (placeL_none fun e he => by obtain ⟨j, hj⟩ := List.getElem?_of_mem he; exact hne j e (by have := (List.getElem?_eq_some_iff.1 hj).1; omega) hj).symm
end Go.Proofs.E
end
section
open Go Go.Gv
attribute [local irreducible] Go.Gv.WJ Go.Gv.OpJ Go.Gv.QJ Go.Gv.Spl Go.Gv.Req Go.Gv.IdxP Go.Gv.RegP Go.Gv.FinP Go.Gv.CellP Go.Gv.CellsP Go.Gv.ArrP Go.Gv.ArrsP Go.Gv.DropP Go.Gv.ByteP Go.Gv.StoreP
set_option maxRecDepth 100000
namespace Go.Proofs.E
theorem eqRO (o p : OP) : eqT Tryz.prog 4 125 [.int .i64 o.k, .int .i64 o.i.c, .int .i64 o.i.s, .int .i64 o.a.c, .int .i64 o.a.s, .int .i32 o.ch] [.int .i64 p.k, .int .i64 p.i.c, .int .i64 p.i.s, .int .i64 p.a.c, .int .i64 p.a.s, .int .i32 p.ch] = some (decide (o = p)) := by
  show some (decide (o.k = p.k) && ((decide (o.i.c = p.i.c) && (decide (o.i.s = p.i.s) && true)) && ((decide (o.a.c = p.a.c) && (decide (o.a.s = p.a.s) && true)) && (decide (o.ch = p.ch) && true)))) = _
  obtain ⟨a, ⟨b, c⟩, ⟨d, e⟩, f⟩ := o
  obtain ⟨a', ⟨b', c'⟩, ⟨d', e'⟩, f'⟩ := p
  simp [Bool.and_assoc, and_assoc]
theorem eqRO_ok : eqOk Tryz.prog 4 125 = true := by kernel_rfl
theorem eqRO_g : Tryz.prog.eqGuardType Tryz.prog.depth 125 = false := by kernel_rfl
theorem insL_take {l : List OP} {i : Nat} {x : OP} (h : l[i]? = some x) : (insL (l.take (i + 1))).length = (insL (l.take i)).length + (if x.k = 0 then 1 else 0) := by
  rw [take_snoc h]
  by_cases hk : x.k = 0
  · rw [insL_snoc0 hk, if_pos hk, List.length_append]; rfl
  · rw [insL_snoc1 hk, if_neg hk]; rfl
theorem insL_le (l : List OP) : (insL l).length ≤ l.length := List.length_filter_le _ _
theorem RWrong_c (l : List OP) (o : OP) (hl : l.length ≤ 1000000) : Cv 107 [.d (.sl 6 (l.map opD)), opv o] (iv (wrongO l o)) := by
  have h00 := RHas_c l 0 o.i hl
  have h1i := RHas_c l 1 o.i hl
  have h0a := RHas_c l 0 o.a hl
  have isN : ∀ (k : Int) (a : ID), decide (hasIx k a l < 0) = !(findO k a l).isSome := fun k a => by
    rcases hasIx_is k a l with ⟨e1, e2⟩ | ⟨n, x, e1, _, e2⟩
    · rw [e1, e2]; rfl
    · rw [e1, e2, decide_eq_false (by omega)]; rfl
  have isG : ∀ (k : Int) (a : ID), decide (hasIx k a l ≥ 0) = (findO k a l).isSome := fun k a => by
    rcases hasIx_is k a l with ⟨e1, e2⟩ | ⟨n, x, e1, _, e2⟩
    · rw [e1, e2]; rfl
    · rw [e1, e2, decide_eq_true (by omega)]; rfl
  refine Ct.of_wv Tryz.f107 Tryz.func107 rfl rfl fun w H B g0 => ?_
  try refine WJ.cut ?_
  (first | refine Sq.go ?_ | refine vL_nil (Sq.go ?_) | skip)
  try refine WJ.cut ?_
  refine OpJ.callV (RCheck5_c o) (fun _ _ => rfl) rfl rfl rfl ?_
  (first | refine Sq.go ?_ | refine vL_nil (Sq.go ?_) | skip)
  try refine WJ.cut ?_
  refine Spl.of (fun h1 => ?_) (fun h1 => ?_)
  · have h1 : checkO o ≠ 0 := by simpa using h1
    (repeat (first | refine Spl.t rfl ?_ | refine Spl.f rfl ?_))
    refine .out (by simp) ?_
    refine FinP.open rfl (congrArg iv ?_)
    unfold wrongO; rw [if_pos h1]
  have h1 : checkO o = 0 := by simpa using h1
  (first | refine Sq.go ?_ | refine vL_nil (Sq.go ?_) | skip)
  try refine WJ.cut ?_
  refine OpJ.callV h00 (fun _ _ => rfl) rfl rfl rfl ?_
  (first | refine Sq.go ?_ | refine vL_nil (Sq.go ?_) | skip)
  try refine WJ.cut ?_
  refine Spl.of (fun h2 => ?_) (fun h2 => ?_)
  · have h2 : o.k = 1 := of_decide_eq_true h2
    have hw : wrongO l o = if (findO 0 o.i l).isSome = true then (if deadO l o.i = true then 4 else 0) else 6 := by unfold wrongO; rw [if_neg (fun e => e h1), if_pos h2]
    (repeat (first | refine Spl.t rfl ?_ | refine Spl.f rfl ?_))
    refine Spl.of (fun h3 => ?_) (fun h3 => ?_)
    · rw [isN] at h3
      have h3 : (findO 0 o.i l).isSome = false := by simpa using h3
      (repeat (first | refine Spl.t rfl ?_ | refine Spl.f rfl ?_))
      refine .out (by simp) ?_
      refine FinP.open rfl (congrArg iv ?_)
      rw [hw, h3]; rfl
    · rw [isN] at h3
      have h3 : (findO 0 o.i l).isSome = true := by simpa using h3
      rw [if_pos h3] at hw
      (repeat (first | refine Spl.t rfl ?_ | refine Spl.f rfl ?_))
      refine OpJ.callV h1i (fun _ _ => rfl) rfl rfl rfl ?_
      (repeat (first | refine Spl.t rfl ?_ | refine Spl.f rfl ?_))
      refine Spl.of (fun h4 => ?_) (fun h4 => ?_)
      · rw [isG] at h4
        (repeat (first | refine Spl.t rfl ?_ | refine Spl.f rfl ?_))
        refine .out (by simp) ?_
        refine FinP.open rfl (congrArg iv ?_)
        rw [hw, if_pos (show deadO l o.i = true from h4)]
      · rw [isG] at h4
        (repeat (first | refine Spl.t rfl ?_ | refine Spl.f rfl ?_))
        refine .out (by simp) ?_
        refine FinP.open rfl (congrArg iv ?_)
        rw [hw, if_neg (show ¬ deadO l o.i = true by unfold deadO; rw [h4]; decide)]
  have h2 : ¬ o.k = 1 := of_decide_eq_false h2
  have hw : wrongO l o = if findO 0 o.i l = some o then 4 else if (findO 0 o.i l).isSome = true then 5 else if o.a ≠ ⟨0, 0⟩ ∧ (findO 0 o.a l).isSome = false then 6 else if 4096 ≤ (insL l).length then 7 else 0 := by
    unfold wrongO; rw [if_neg (fun e => e h1), if_neg h2]
  (first | refine Sq.go ?_ | refine vL_nil (Sq.go ?_) | skip)
  try refine WJ.cut ?_
  refine RegP.of rfl (by decide +kernel) ?_
  refine Spl.of (fun h3 => ?_) (fun h3 => ?_)
  · -- there is one of that id
    have h3' : 0 ≤ hasIx 0 o.i l := of_decide_eq_true h3
    obtain ⟨n, x, e1, e2, e3⟩ : ∃ (n : Nat) (x : OP), hasIx 0 o.i l = n ∧ l[n]? = some x ∧ findO 0 o.i l = some x := by
      rcases hasIx_is 0 o.i l with ⟨e1, _⟩ | h
      · omega
      · exact h
    have hlt := (List.getElem?_eq_some_iff.1 e2).1
    rw [e3] at hw
    (repeat (first | refine Spl.t rfl ?_ | refine Spl.f rfl ?_))
    refine IdxP.of (opD x) (by rw [e1]; simp; try omega) (by rw [e1]; simp [e2]) ?_
    (repeat (first | refine Spl.t rfl ?_ | refine Spl.f rfl ?_))
    refine QuietP.of (O.eqT 4 rfl rfl rfl rfl rfl eqRO_ok eqRO_g (eqRO x o)) ?_
    refine Spl.of (fun h4 => ?_) (fun h4 => ?_)
    · have h4 : x = o := of_decide_eq_true h4
      (repeat (first | refine Spl.t rfl ?_ | refine Spl.f rfl ?_))
      refine .out (by simp) ?_
      refine FinP.open rfl (congrArg iv ?_)
      rw [hw, if_pos (by rw [h4])]
    · have h4 : ¬ x = o := of_decide_eq_false h4
      (repeat (first | refine Spl.t rfl ?_ | refine Spl.f rfl ?_))
      (first | refine Sq.go ?_ | refine vL_nil (Sq.go ?_) | skip)
      try refine WJ.cut ?_
      refine Spl.t h3 ?_
      (repeat (first | refine Spl.t rfl ?_ | refine Spl.f rfl ?_))
      refine .out (by simp) ?_
      refine FinP.open rfl (congrArg iv ?_)
      rw [hw, if_neg (fun e => h4 (Option.some.inj e))]; simp
  · have h3' : ¬ 0 ≤ hasIx 0 o.i l := of_decide_eq_false h3
    have e3 : findO 0 o.i l = none := by
      rcases hasIx_is 0 o.i l with ⟨_, e2⟩ | ⟨n, x, e1, _⟩
      · exact e2
      · omega
    rw [e3, if_neg (by simp), if_neg (by simp)] at hw
    (repeat (first | refine Spl.t rfl ?_ | refine Spl.f rfl ?_))
    (first | refine Sq.go ?_ | refine vL_nil (Sq.go ?_) | skip)
    try refine WJ.cut ?_
    refine Spl.f h3 ?_
    (first | refine Sq.go ?_ | refine vL_nil (Sq.go ?_) | skip)
    try refine WJ.cut ?_
    refine OpJ.qu (O.neT 3 rfl rfl rfl rfl rfl eqR_ok eqR_g (eqR o.a ⟨0, 0⟩)) rfl ?_
    refine Spl.of (fun h4 => ?_) (fun h4 => ?_)
    · have h4 : o.a ≠ ⟨0, 0⟩ := by simpa using h4
      (repeat (first | refine Spl.t rfl ?_ | refine Spl.f rfl ?_))
      refine OpJ.callV h0a (fun _ _ => rfl) rfl rfl rfl ?_
      (repeat (first | refine Spl.t rfl ?_ | refine Spl.f rfl ?_))
      refine Spl.of (fun h5 => ?_) (fun h5 => ?_)
      · rw [isN] at h5
        have h5 : (findO 0 o.a l).isSome = false := by simpa using h5
        (repeat (first | refine Spl.t rfl ?_ | refine Spl.f rfl ?_))
        refine .out (by simp) ?_
        refine FinP.open rfl (congrArg iv ?_)
        rw [hw, if_pos ⟨h4, h5⟩]
      · rw [isN] at h5
        have h5 : (findO 0 o.a l).isSome = true := by simpa using h5
        have hno : ¬ (o.a ≠ ⟨0, 0⟩ ∧ (findO 0 o.a l).isSome = false) := fun e => by rw [h5] at e; cases e.2
        (repeat (first | refine Spl.t rfl ?_ | refine Spl.f rfl ?_))
        ((first | refine Sq.go ?_ | refine vL_nil (Sq.go ?_) | skip); try refine WJ.cut ?_; (first | refine Sq.go ?_ | refine vL_nil (Sq.go ?_) | skip); try refine WJ.cut ?_; refine WJ.loopK (V := Nat) (fun i => [(8, iv i), (7, iv ((insL (l.take i)).length : Nat))]) (fun _ => []) [] (fun i => l.length - i) (fun i => i ≤ l.length) 0 (by omega) ⟨rfl, rfl, trivial⟩ (by repeat' (first | exact trivial | exact rfl | refine And.intro ?_ ?_)) ?_; intro i hi; have hci := insL_le (l.take i); have htl := List.length_take (i := i) (l := l); (refine Spl.of (fun g1 => ?_) (fun g1 => ?_); (have hlt : i < l.length := (by have := of_decide_eq_true g1; simp at this; omega); have hx : l[i]? = some l[i] := (by simp); have hsn := insL_take hx; (repeat (first | refine Spl.t rfl ?_ | refine Spl.f rfl ?_)); refine IdxP.of (opD l[i]) (by omega) (by simp [hx]) ?_; refine Spl.of (fun g2 => ?_) (fun g2 => ?_); (have g2 : l[i].k = 0 := of_decide_eq_true g2; rw [if_pos g2] at hsn; (repeat (first | refine Spl.t rfl ?_ | refine Spl.f rfl ?_)); exact ⟨i + 1, by omega, by omega, ⟨some_iv (wrap_id _ (by omega) (by omega)), some_iv (by rw [wrap_id _ (by omega) (by omega), hsn]; omega), trivial⟩, (by repeat' (first | exact trivial | exact rfl | refine And.intro ?_ ?_)), (by repeat' (first | exact trivial | exact rfl | refine And.intro ?_ ?_)), (by repeat' (first | exact trivial | exact rfl | refine And.intro ?_ ?_))⟩); (have g2 : ¬ l[i].k = 0 := of_decide_eq_false g2; rw [if_neg g2] at hsn; (repeat (first | refine Spl.t rfl ?_ | refine Spl.f rfl ?_)); exact ⟨i + 1, by omega, by omega, ⟨some_iv (wrap_id _ (by omega) (by omega)), some_iv (by rw [hsn]; rfl), trivial⟩, (by repeat' (first | exact trivial | exact rfl | refine And.intro ?_ ?_)), (by repeat' (first | exact trivial | exact rfl | refine And.intro ?_ ?_)), (by repeat' (first | exact trivial | exact rfl | refine And.intro ?_ ?_))⟩)); (have g1 := of_decide_eq_false g1; simp at g1; have hall : l.take i = l := List.take_of_length_le (by omega); rw [hall]; (repeat (first | refine Spl.t rfl ?_ | refine Spl.f rfl ?_)); (first | refine Sq.go ?_ | refine vL_nil (Sq.go ?_) | skip); try refine WJ.cut ?_; refine Spl.of (fun g3 => ?_) (fun g3 => ?_); (have g3 := of_decide_eq_true g3; (repeat (first | refine Spl.t rfl ?_ | refine Spl.f rfl ?_)); refine .out (by simp) ?_; refine FinP.open rfl (congrArg iv ?_); rw [hw, if_neg hno, if_pos (by omega)]); (have g3 := of_decide_eq_false g3; (first | refine Sq.go ?_ | refine vL_nil (Sq.go ?_) | skip); try refine vc_sound _ _ _ _ ?_; refine FinP.open rfl (congrArg iv ?_); rw [hw, if_neg hno, if_neg (by omega)]))))
    · have h4 : o.a = ⟨0, 0⟩ := by simpa using h4
      have hno : ¬ (o.a ≠ ⟨0, 0⟩ ∧ (findO 0 o.a l).isSome = false) := fun e => e.1 h4
      (repeat (first | refine Spl.t rfl ?_ | refine Spl.f rfl ?_))
      ((first | refine Sq.go ?_ | refine vL_nil (Sq.go ?_) | skip); try refine WJ.cut ?_; (first | refine Sq.go ?_ | refine vL_nil (Sq.go ?_) | skip); try refine WJ.cut ?_; refine WJ.loopK (V := Nat) (fun i => [(8, iv i), (7, iv ((insL (l.take i)).length : Nat))]) (fun _ => []) [] (fun i => l.length - i) (fun i => i ≤ l.length) 0 (by omega) ⟨rfl, rfl, trivial⟩ (by repeat' (first | exact trivial | exact rfl | refine And.intro ?_ ?_)) ?_; intro i hi; have hci := insL_le (l.take i); have htl := List.length_take (i := i) (l := l); (refine Spl.of (fun g1 => ?_) (fun g1 => ?_); (have hlt : i < l.length := (by have := of_decide_eq_true g1; simp at this; omega); have hx : l[i]? = some l[i] := (by simp); have hsn := insL_take hx; (repeat (first | refine Spl.t rfl ?_ | refine Spl.f rfl ?_)); refine IdxP.of (opD l[i]) (by omega) (by simp [hx]) ?_; refine Spl.of (fun g2 => ?_) (fun g2 => ?_); (have g2 : l[i].k = 0 := of_decide_eq_true g2; rw [if_pos g2] at hsn; (repeat (first | refine Spl.t rfl ?_ | refine Spl.f rfl ?_)); exact ⟨i + 1, by omega, by omega, ⟨some_iv (wrap_id _ (by omega) (by omega)), some_iv (by rw [wrap_id _ (by omega) (by omega), hsn]; omega), trivial⟩, (by repeat' (first | exact trivial | exact rfl | refine And.intro ?_ ?_)), (by repeat' (first | exact trivial | exact rfl | refine And.intro ?_ ?_)), (by repeat' (first | exact trivial | exact rfl | refine And.intro ?_ ?_))⟩); (have g2 : ¬ l[i].k = 0 := of_decide_eq_false g2; rw [if_neg g2] at hsn; (repeat (first | refine Spl.t rfl ?_ | refine Spl.f rfl ?_)); exact ⟨i + 1, by omega, by omega, ⟨some_iv (wrap_id _ (by omega) (by omega)), some_iv (by rw [hsn]; rfl), trivial⟩, (by repeat' (first | exact trivial | exact rfl | refine And.intro ?_ ?_)), (by repeat' (first | exact trivial | exact rfl | refine And.intro ?_ ?_)), (by repeat' (first | exact trivial | exact rfl | refine And.intro ?_ ?_))⟩)); (have g1 := of_decide_eq_false g1; simp at g1; have hall : l.take i = l := List.take_of_length_le (by omega); rw [hall]; (repeat (first | refine Spl.t rfl ?_ | refine Spl.f rfl ?_)); (first | refine Sq.go ?_ | refine vL_nil (Sq.go ?_) | skip); try refine WJ.cut ?_; refine Spl.of (fun g3 => ?_) (fun g3 => ?_); (have g3 := of_decide_eq_true g3; (repeat (first | refine Spl.t rfl ?_ | refine Spl.f rfl ?_)); refine .out (by simp) ?_; refine FinP.open rfl (congrArg iv ?_); rw [hw, if_neg hno, if_pos (by omega)]); (have g3 := of_decide_eq_false g3; (first | refine Sq.go ?_ | refine vL_nil (Sq.go ?_) | skip); try refine vc_sound _ _ _ _ ?_; refine FinP.open rfl (congrArg iv ?_); rw [hw, if_neg hno, if_neg (by omega)]))))
end Go.Proofs.E
end
section
namespace Go.Gv
open Go.RowKit
theorem add_zero' (A : Addr) : A.add 0 = A := by simp [Addr.add]
section cut
variable {X : Cx} {d : Option Nat} {ty : TypeId} {pos : String} {aft : Array Edge} {g : Option (Nat × Bool)} {t : T} {σ : Sg} {K : T → Sg → Prop}
/-- The first of a private row. -/
theorem O.cutPre {st e : TypeId} {x ho : Operand} {i k n : Nat} {kk : IntKind} {m : Int} (hx : ge t x = some (.arr i k n)) (hho : ge t ho = some (.d (.v (.int kk m)))) (hu : X.P.underlying st = some (.slice e)) (hs : szOf X.P e = some k) (h0 : 0 ≤ m) (h1 : m ≤ (n : Int)) :
    QJ X ⟨d, .slice st x none (some ho) none, ty, pos, aft, g⟩ t σ (.suf i k 0 m.toNat) :=
  QJ.value (by simp) (fun γ H ac w so sm => by
    have hr := so x (by simp [Op.operands]) _ hx
    generalize hq : ac.eval x = q at hr
    cases hr with
    | arr _ _ _ A hn hA =>
      have hb := bounds_run (P := X.P) (w := w) (γ := γ) (H := H) (a := ac) (isS := true) (lo := none) (hi := some ho) (len := n) (cap := (γ i).n) (t := t) (l := 0) (h := m) rfl (by simp [hiV, hho]) (by omega) h0 h1 hn (fun y hy v hv => so y (by
        rcases hy with hy | hy
        · cases hy
        · cases hy; simp [Op.operands]) v hv)
      refine ⟨.slice A m.toNat (γ i).n, ?_, .suf i k 0 m.toNat A (by omega) (fun h => by rw [hA h, Nat.zero_mul])⟩
      simp only [Option.map_none, Option.map_some] at hb
      simp only [execOp, hq, Instr.sliceAt, Instr.slice, Sem.run_bind, run_underlying hu, Result.andThen_ok, Option.map_none, Option.map_some, hb, szOf_run hs, Sem.run_pure]
      simp only [Int.toNat_zero, Nat.zero_mul, Nat.sub_zero]
      have : (A.map fun x => x.add 0) = A := by cases A <;> simp [add_zero']
      simp [this])
/-- A private row from a place on. -/
theorem O.cutSuf {st e : TypeId} {x lo : Operand} {i k n : Nat} {kk : IntKind} {m : Int} (hx : ge t x = some (.arr i k n)) (hlo : ge t lo = some (.d (.v (.int kk m)))) (hu : X.P.underlying st = some (.slice e)) (hs : szOf X.P e = some k) (h0 : 0 ≤ m) (h1 : m ≤ (n : Int)) :
    QJ X ⟨d, .slice st x (some lo) none none, ty, pos, aft, g⟩ t σ (.suf i k m.toNat (n - m.toNat)) :=
  QJ.value (by simp) (fun γ H ac w so sm => by
    have hr := so x (by simp [Op.operands]) _ hx
    generalize hq : ac.eval x = q at hr
    cases hr with
    | arr _ _ _ A hn hA =>
      have hb := bounds_run (P := X.P) (w := w) (γ := γ) (H := H) (a := ac) (isS := true) (lo := some lo) (hi := none) (len := n) (cap := (γ i).n) (t := t) (l := m) (h := n) (by simp [loV, hlo]) rfl h0 h1 (by omega) hn (fun y hy v hv => so y (by
        rcases hy with hy | hy
        · cases hy; simp [Op.operands]
        · cases hy) v hv)
      refine ⟨.slice (if (γ i).n = m.toNat then A else A.map (·.add (m.toNat * k))) (n - m.toNat) ((γ i).n - m.toNat), ?_, .suf i k m.toNat (n - m.toNat) _ (by omega) (fun h => ?_)⟩
      · simp only [Option.map_none, Option.map_some] at hb
        simp only [execOp, hq, Instr.sliceAt, Instr.slice, Sem.run_bind, run_underlying hu, Result.andThen_ok, Option.map_none, Option.map_some, hb, szOf_run hs, Sem.run_pure]
        simp
      · rw [if_neg (by omega), hA (by omega)]
        simp only [Option.map_some, Addr.add]
        split
        · next e => rw [e]
        · simp)
/-- The rows that an operand holds, as they can be copied. -/
structure Flat (X : Cx) (H : HF) (w : World) (u : Value) (k : Nat) (ys : List (List D)) (vs : List Value) : Prop where
  fc : ∀ w' : World, w'.heap = w.heap → (Builtin.firstCells k ys.length u).run X.P w' = .ok vs.toArray w'
  ln : ∀ w' : World, (Builtin.lenOf u).run X.P w' = .ok ys.length w'
  vl : vs.length = ys.length * k
  yk : ∀ cs, cs ∈ ys → cs.length = k
  rp : ∀ (j l : Nat) (cs : List D) (a : D) (u : Value), ys[j]? = some cs → cs[l]? = some a → vs[j * k + l]? = some u → RepD H a u
def FlatQ (X : Cx) (t : T) (σ : Sg) (y : Operand) (k : Nat) (ys : List (List D)) : Prop := ∀ γ H (a : Act) w, (∀ v, ge t y = some v → Rep γ H v (a.eval y)) → Mem X.w0 X.H0 X.B γ H σ w → ∃ vs, Flat X H w (a.eval y) k ys vs
theorem FlatQ.suf {y : Operand} {i k l n : Nat} {xs : List (List D)} (hy : ge t y = some (.suf i k l n)) (hi : look i σ = some (.arr k xs)) (hl : l + n ≤ xs.length) : FlatQ X t σ y k ((xs.drop l).take n) := by
  intro γ H a w so sm
  have hr := so _ hy
  generalize hq : a.eval y = q at hr
  cases hr with
  | suf _ _ _ _ A hn hA =>
  obtain ⟨hle, hxk, hreal⟩ := sm.ent i _ hi
  have hlen : ((xs.drop l).take n).length = n := by simp; omega
  have hget : ∀ j cs, ((xs.drop l).take n)[j]? = some cs → xs[l + j]? = some cs ∧ j < n := fun j cs hj => by
    rw [List.getElem?_take] at hj
    split at hj
    · rw [List.getElem?_drop] at hj; exact ⟨hj, by assumption⟩
    · cases hj
  by_cases h0 : n = 0
  · subst h0
    refine ⟨[], fun w' _ => ?_, fun w' => ?_, by simp, fun cs hcs => by simp at hcs, fun j l' cs a' u h => by simp at h⟩
    · rw [hlen]; cases A <;> simp [Builtin.firstCells, loadCells, loadCellsFrom]
    · rw [hlen]; exact lenOf_sl
  · have hA' := hA (by omega)
    subst hA'
    obtain ⟨tt, us, h3, h4, h5⟩ := hreal (by omega)
    have hfit : l * k + n * k ≤ us.length := by rw [h4, ← Nat.add_mul]; exact Nat.mul_le_mul_right _ hn
    refine ⟨(us.drop (l * k)).take (n * k), fun w' hw' => ?_, fun w' => ?_, ?_, fun cs hcs => hxk cs (List.mem_of_mem_drop (List.mem_of_mem_take hcs)), fun j l' cs a' u hj hl' hu => ?_⟩
    · rw [hlen]
      have := load_cells (P := X.P) (w := w') (b := (γ i).b) (vs := fun p => us.getD (l * k + p) undef) (n * k) (l * k) 0 #[] (fun p hp => by
        have h6 : w'.heap[(γ i).b]? = some (.cells us.toArray tt (0, 0)) := by rw [hw']; exact h3
        rw [cell_of_block h6]
        simp [List.getElem?_eq_getElem (show l * k + p < us.length by omega)])
      simp only [Builtin.firstCells, loadCells]
      rw [this]
      congr 1
      apply Array.toList_inj.1
      simp only [List.nil_append, List.append_toArray, List.toList_toArray, Array.toList_append]
      apply List.ext_getElem?
      intro p
      simp only [List.getElem?_map, List.getElem?_take, List.getElem?_drop]
      by_cases hp : p < n * k
      · rw [if_pos hp, List.getElem?_range' (by omega)]
        simp [List.getElem?_eq_getElem (show l * k + p < us.length by omega)]
      · rw [if_neg hp, List.getElem?_eq_none (by simp; omega)]; rfl
    · rw [hlen]; exact lenOf_sl
    · rw [List.length_take, List.length_drop, hlen]; omega
    · obtain ⟨h6, h7⟩ := hget j cs hj
      rw [List.getElem?_take] at hu
      split at hu
      · rw [List.getElem?_drop] at hu
        refine h5 (l + j) l' cs a' u h6 hl' ?_
        rw [Nat.add_mul, Nat.add_assoc]; exact hu
      · cases hu
/-- What is data can be copied. -/
theorem FlatQ.data {y : Operand} {k : Nat} {ys : List (List D)} {av : AV} (hy : ge t y = some av) (hel : elems av = some (k, ys)) : FlatQ X t σ y k ys := by
  intro γ H a w so sm
  have hry := rep_elems (so _ hy) hel
  obtain ⟨hyk, hylen⟩ := repd_sl_len hry
  obtain ⟨B, cy, vs, hqy, hfc, hvl, hvone, hvrep⟩ := repd_flat (P := X.P) hry
  refine ⟨vs, fun w' hw' => hfc w' fun b o v h => ?_, fun w' => by rw [hqy]; exact lenOf_sl, hvl, hyk, hvrep⟩
  have := sm.hok.c b o v h
  simp only [World.cell?, hw'] at this ⊢; exact this
/-- append onto data that has no room, of what can be copied: given to all at once; it turns nothing that is there. -/
theorem QJ.appendG {x y : Operand} {st xt el : TypeId} {k bytes : Nat} {z : Value} {xs ys : List (List D)} {av0 : AV} (hx : ge t x = some av0) (hfu : FullIs av0 k xs) (hy : FlatQ X t σ y k ys)
    (hu : X.P.underlying st = some (.slice el)) (hxu : X.P.underlying xt = some (.slice el)) (hz : ∀ w, (sizeOf el).run X.P w = .ok k w) (hzv : ∀ w, (zeroValue el).run X.P w = .ok z w) (hzl : z.cells.size = k)
    (hb : ∀ w, ((fun i : TypeInfo => i.bytes) <$> typeInfo el).run X.P w = .ok bytes w) (hb0 : bytes ≠ 0) (hbytes : (3 * (xs.length + ys.length) + 4096) * bytes ≤ 281474976710656)
    (hm : xs.length + ys.length ≤ 9223372036854775807) :
    QJ X ⟨d, .call { callee := .builtin .append, args := #[x, y], argTypes := #[st, xt] }, ty, pos, aft, g⟩ t σ (.d (.sl k (xs ++ ys))) := by
  intro γ H a w hl so sm next Q' hk
  obtain ⟨A, hq, hrx⟩ := hfu.rep (so x (by simp [Op.operands, Call.operands]) _ hx)
  obtain ⟨hxk, _⟩ := repd_sl_len hrx
  obtain ⟨vs, hfv⟩ := hy γ H a w (fun v hv => so y (by simp [Op.operands, Call.operands]) v hv) sm
  obtain ⟨Bx, cx, us, hqx, hfx, hul, huone, hurep⟩ := repd_flat (P := X.P) hrx
  have hexec : ∀ r : Result Value, (Builtin.append_ #[st, xt] ty #[.slice A xs.length xs.length, a.eval y]).run X.P w = r → (execOp a.eval ⟨d, .call { callee := .builtin .append, args := #[x, y], argTypes := #[st, xt] }, ty, pos, aft, g⟩).run X.P w =
      r.andThen fun v w => .ok (.value v) w := fun r h => by
    simp only [execOp, resolve, invoke, builtin, List.map_toArray, List.map_cons, List.map_nil, Sem.run_bind, Sem.run_pure, Result.andThen_ok, hq, h]
  by_cases hroom : xs.length + ys.length ≤ xs.length
  · have hy0 : ys = [] := List.length_eq_zero_iff.1 (by omega)
    subst hy0
    have hrun := append_room (P := X.P) (w := w) (ty := ty) (A := A) (n := xs.length) (c := xs.length) hu hxu hz hfv.ln (hfv.fc w rfl) (Nat.le_refl _)
    have hv0 : vs = [] := List.length_eq_zero_iff.1 (by rw [hfv.vl]; simp)
    subst hv0
    have hrun' : (Builtin.append_ #[st, xt] ty #[.slice A xs.length xs.length, a.eval y]).run X.P w = .ok (.slice A xs.length xs.length) w := by
      rw [hrun]; cases A <;> simp [storeCells]
    rw [semAt_of (by simp), hexec _ hrun', Result.andThen_ok, Oper.uponIn_value]
    refine hk _ γ [] H w (sm.refl γ) (.d _ _ ?_)
    rw [List.append_nil]
    rw [hq] at hrx; exact hrx
  · have hus : ∀ w' : World, w'.heap = w.heap → (Builtin.firstCells k xs.length (.slice A xs.length xs.length)).run X.P w' = .ok us.toArray w' := fun w' hw' => by
      rw [← hq]
      exact hfx w' fun b o v h => by
        have := sm.hok.c b o v h
        simp only [World.cell?, hw'] at this ⊢; exact this
    obtain ⟨cap, hcap, hrun⟩ := append_grow (P := X.P) (w := w) (ty := ty) (A := A) (n := xs.length) (c := xs.length) (us := us) (vs := vs) hu hxu hz hzv hb hfv.ln hfv.fc hus (by omega) hbytes hb0
    rw [semAt_of (by simp), hexec _ hrun, Result.andThen_ok, Oper.uponIn_value]
    have hzc : (Builtin.zeroCells z.cells (cap - (xs.length + ys.length))).toList.length = (cap - (xs.length + ys.length)) * k := by
      simp [Builtin.zeroCells, hzl]
    have hm0 := sm.drew.new 0 (.arr k (xs ++ ys)) (.cells (us ++ vs ++ (Builtin.zeroCells z.cells (cap - (xs.length + ys.length))).toList).toArray el) cap
      ⟨by rw [upd_same, List.length_append]; exact hcap, fun cs hcs => by rcases List.mem_append.1 hcs with h | h; exact hxk cs h; exact hfv.yk cs h, fun _ => by
        rw [upd_same]
        refine ⟨el, _, World.alloc_heap_new _ _, ?_, ?_⟩
        · rw [List.length_append, List.length_append, hzc, hul, hfv.vl, ← Nat.add_mul, ← Nat.add_mul]
          congr 1
          show xs.length + ys.length + (cap - (xs.length + ys.length)) = cap
          omega
        · have hvl := hfv.vl
          refine arr_snoc hxk hfv.yk hurep hfv.rp (fun p hp => ?_) (fun p hp => ?_)
          · rw [List.append_assoc, List.getElem?_append_left (by omega)]
          · rw [List.append_assoc, List.getElem?_append_right (by omega), hul, show xs.length * k + p - xs.length * k = p from by omega, List.getElem?_append_left (by omega)]⟩ (fun _ _ h => by cases h)
    have hm' : Mem w H (fun _ => False) (upd γ 0 ⟨w.heap.size, cap, fun _ => False⟩) H [(0, .arr k (xs ++ ys))] (w.drew.alloc (.cells (us ++ vs ++ (Builtin.zeroCells z.cells (cap - (xs.length + ys.length))).toList).toArray el)) :=
      ⟨⟨hm0.keep.os, hm0.keep.tape, hm0.keep.output, hm0.keep.size, hm0.keep.block⟩, hm0.hle, ⟨hm0.hnew.c, hm0.hnew.m⟩, hm0.hok, hm0.ent, hm0.free, hm0.fresh, hm0.apart⟩
    have hl0 : look 0 ([(0, Ent.arr k (xs ++ ys))] : Sg) = some (.arr k (xs ++ ys)) := by rw [look_cons, if_pos rfl]
    obtain ⟨H', ok, hk2⟩ := hm'.pub hl0 rfl
    have hj := hm'.join (σr := []) hk2 (fun b hb => ⟨0, _, hl0, rfl, hb⟩) (Wk.nil _) (fun i e h => by cases h) (fun i e h => by cases h)
    refine hk _ _ _ H' _ hj (.d _ _ ?_)
    have h3 := ok (xs.length + ys.length) (some ⟨w.heap.size, 0, none⟩) (by simp) (by rw [upd_same]; exact hcap) (fun _ => by rw [upd_same]) hm
    rw [List.take_of_length_le (by simp), upd_same] at h3
    exact h3
theorem QJ.appG {x y : Operand} {st xt : TypeId} {k : Nat} {xs ys : List (List D)} {av0 : AV} (hx : ge t x = some av0) (hfu : FullIs av0 k xs) (hy : FlatQ X t σ y k ys) (hI : elInfo X.P st xt = some k) (hb : xs.length + ys.length ≤ 1000000000) :
    QJ X ⟨d, .call { callee := .builtin .append, args := #[x, y], argTypes := #[st, xt] }, ty, pos, aft, g⟩ t σ (.d (.sl k (xs ++ ys))) := by
  obtain ⟨el, z, bytes, h1, h2, h3, h4, h5, h6, h7, h8⟩ := elInfo_out hI
  exact QJ.appendG hx hfu hy h1 h2 h3 h4 h5 h6 h7 (bytes_fit hb h8) (by omega)
/-- The first of a private row, as a row. -/
theorem SJ.sufArr (j : Nat) {i k n : Nat} (hj : look j t = some (.suf i k 0 n)) : SJ X t σ ((j, .arr i k n) :: t) σ :=
  SJ.view j hj fun γ H u r => by
    cases r with
    | suf _ _ _ _ A hn hA =>
      rw [Nat.sub_zero]
      exact .arr i k n A (by omega) (fun h => by rw [hA h, Nat.zero_mul])
/-- Less is known of a private row. -/
theorem SJ.cutA (i m : Nat) {k : Nat} {xs : List (List D)} (hi : look i σ = some (.arr k xs)) : SJ X t σ t ((i, .arr k (xs.take m)) :: σ) := fun γ H a w s => by
  have g : ∀ j f, look j ((i, Ent.arr k (xs.take m)) :: σ) = some f → ∀ b, blk γ j f b → ∃ f', look j σ = some f' ∧ blk γ j f' b := fun j f hj b hb => by
    rw [look_cons] at hj
    split at hj
    · next e => subst e; cases hj; exact ⟨_, hi, hb⟩
    · exact ⟨f, hj, hb⟩
  refine ⟨γ, H, s.lam, s.round, let ⟨ms, h1, h2⟩ := s.defers; ⟨ms, h1, h2.1, fun b hb => ⟨(h2.2 b hb).1, (h2.2 b hb).2.1, fun ⟨j, f, hj, hbb⟩ => (h2.2 b hb).2.2 (let ⟨f', h3, h4⟩ := g j f hj b hbb; ⟨j, f', h3, h4⟩)⟩⟩, s.size, s.pinned, s.tmp,
    s.mem.keep, s.mem.hle, s.mem.hnew, s.mem.hok, fun j f hj => ?_, fun j f hj b hb => let ⟨f', h3, h4⟩ := g j f hj b hb; s.mem.free j f' h3 b h4, fun j f hj b hb => let ⟨f', h3, h4⟩ := g j f hj b hb; s.mem.fresh j f' h3 b h4,
    fun j f k f2 b hj hk hb hb' => let ⟨f', h3, h4⟩ := g j f hj b hb; let ⟨f2', h5, h6⟩ := g k f2 hk b hb'; s.mem.apart j f' k f2' b h3 h5 h4 h6⟩
  rw [look_cons] at hj
  split at hj
  · next e =>
    subst e; cases hj
    obtain ⟨h1, h2, h3⟩ := s.mem.ent j _ hi
    refine ⟨Nat.le_trans (by rw [List.length_take]; omega) h1, fun cs hcs => h2 cs (List.mem_of_mem_take hcs), fun hc => ?_⟩
    obtain ⟨tt, us, h4, h5, h6⟩ := h3 hc
    refine ⟨tt, us, h4, h5, fun j l cs a u hj hl hu => ?_⟩
    rw [List.getElem?_take] at hj
    split at hj
    · exact h6 j l cs a u hj hl hu
    · cases hj
  · exact s.mem.ent j f hj
end cut
end Go.Gv
namespace Go.Gv
open Go.RowKit
/-! ### A call that reads a private row, and hands back rows of another kind -/
def HF.cut (H : HF) (b : Nat) : HF := ⟨fun c o => if c = b then none else H.c c o, fun c => if c = b then none else H.m c⟩
theorem RepD.avoid {H : HF} {b k : Nat} {ys : List (List D)} {v : Value} (p : Value → Bool) (hb : ∀ o u, H.c b o = some u → p u = true) (hs : ∀ cs, cs ∈ ys → ∀ a, a ∈ cs → ∃ u, a = .v u)
    (hy : ∀ cs, cs ∈ ys → ∃ (j : Nat) (u : Value), cs[j]? = some (.v u) ∧ p u = false) (r : RepD H (.sl k ys) v) : RepD (H.cut b) (.sl k ys) v := by
  cases r with
  | sl _ _ A c b' o us hk hn hc hA hH hr =>
    refine .sl k ys A c b' o us hk hn hc hA (fun j i hj hi => ?_) (fun j i cs a h1 h2 => ?_)
    · show (if b' = b then none else H.c b' (o + j * k + i)) = _
      have hne : b' ≠ b := fun e => by
        subst e
        have hcs : ys[j]? = some ys[j] := by simp [hj]
        obtain ⟨l, u, h1, h2⟩ := hy ys[j] (List.getElem_mem hj)
        have hl : l < k := by rw [← hk ys[j] (List.getElem_mem hj)]; exact (List.getElem?_eq_some_iff.1 h1).1
        have h3 := hr j l ys[j] _ hcs h1
        have h4 := hb _ _ (hH j l hj hl)
        cases h3
        rw [h2] at h4; cases h4
      rw [if_neg hne]; exact hH j i hj hi
    · obtain ⟨u, rfl⟩ := hs cs (mem_of_get h1) a (mem_of_get h2)
      have := hr j i cs _ h1 h2
      cases this with
      | v _ h => exact .v _ h
/-- An argument, as a reader of the row i takes it. -/
inductive Rd (i k n : Nat) (xs : List (List D)) : List AV → List AV → Prop where
  | nil : Rd i k n xs [] []
  | same (a : AV) {l m : List AV} (h : a.open = true) (r : Rd i k n xs l m) : Rd i k n xs (a :: l) (a :: m)
  | row {l m : List AV} (r : Rd i k n xs l m) : Rd i k n xs (.arr i k n :: l) (.d (.sl k xs) :: m)
theorem Rd.get {i k n : Nat} {xs : List (List D)} {l m : List AV} (h : Rd i k n xs l m) : l.length = m.length ∧ ∀ (j : Nat) (b : AV), m[j]? = some b → ∃ a, l[j]? = some a ∧ ((a = b ∧ a.open = true) ∨ (a = .arr i k n ∧ b = .d (.sl k xs))) := by
  induction h with
  | nil => exact ⟨rfl, fun j b h => by simp at h⟩
  | same a ho _ ih =>
    refine ⟨by simp [ih.1], fun j b hb => ?_⟩
    cases j with
    | zero => simp at hb; exact ⟨a, rfl, .inl ⟨hb, ho⟩⟩
    | succ j => exact ih.2 j b (by simpa using hb)
  | row _ ih =>
    refine ⟨by simp [ih.1], fun j b hb => ?_⟩
    cases j with
    | zero => simp at hb; exact ⟨_, rfl, .inr ⟨rfl, hb.symm⟩⟩
    | succ j => exact ih.2 j b (by simpa using hb)
theorem QJ.callRead {X : Cx} {d : Option Nat} {ty : TypeId} {pos : String} {aft : Array Edge} {g : Option (Nat × Bool)} {t : T} {σ : Sg} {f : FuncId} {args : Array Operand} {tys : Array TypeId} {avs bvs : List AV} {k2 : Nat} {ys : List (List D)}
    (hc : Ct X.Λ X.P f bvs [] (fun q _ => q = .d (.sl k2 ys))) (hok : callOk X.P f) (ha : geAll t args.toList = some avs) {i k n : Nat} {xs : List (List D)} (hi : look i σ = some (.arr k xs)) (hn : xs.length = n) (hm : n ≤ 9223372036854775807) (hv : Rd i k n xs avs bvs)
    (p : Value → Bool) (hx : ∀ cs, cs ∈ xs → ∀ a, a ∈ cs → ∃ u, a = .v u ∧ p u = true) (hs : ∀ cs, cs ∈ ys → ∀ a, a ∈ cs → ∃ u, a = .v u)
    (hy : ∀ cs, cs ∈ ys → ∃ (j : Nat) (u : Value), cs[j]? = some (.v u) ∧ p u = false) : QJ X ⟨d, .call { callee := .value (.func f), args := args, argTypes := tys }, ty, pos, aft, g⟩ t σ (.d (.sl k2 ys)) := by
  intro γ H a w hl so sm next Q' hk
  rw [semAt_of (by simp), call_run hok, Oper.uponIn_enter]
  refine ⟨fun h => by simp [Fr] at h, ?_⟩
  have hso : ∀ x, x ∈ args.toList → ∀ v, ge t x = some v → Rep γ H v (a.eval x) := fun x hx => so x (by simp [Op.operands, Call.operands] at hx ⊢; exact .inr hx)
  obtain ⟨vl, vg⟩ := hv.get
  obtain ⟨hle, hxk, hreal⟩ := sm.ent i _ hi
  -- the row is read as if it were given to all
  obtain ⟨H1, l1, ok1, h1b, n1, n2, h1c⟩ : ∃ H1 : HF, HLe H H1 ∧ HOk H1 w ∧ (∀ o u, H1.c (γ i).b o = some u → H.c (γ i).b o = some u ∨ p u = true) ∧ (∀ c o u, H1.c c o = some u → c ≠ (γ i).b ∨ (γ i).n = 0 → H.c c o = some u) ∧ (∀ c x, H1.m c = some x → H.m c = some x) ∧
      ∀ A, (0 < (γ i).n → A = some ⟨(γ i).b, 0, none⟩) → RepD H1 (.sl k xs) (.slice A n (γ i).n) := by
    by_cases h0 : 0 < (γ i).n
    · obtain ⟨tt, us, h4, h5, h6⟩ := hreal h0
      have hfree := sm.free i _ hi _ ⟨rfl, h0⟩
      have hlen : xs.length * k ≤ us.length := by rw [h5]; exact Nat.mul_le_mul_right _ hle
      refine ⟨⟨fun c o => if c = (γ i).b then (us.take (xs.length * k))[o]? else H.c c o, H.m⟩, ⟨fun c o v hv => ?_, fun _ _ h => h⟩, ⟨fun c o v hv => ?_, sm.hok.m⟩, fun o u hu => ?_, fun c o u hu hne => ?_, fun _ _ h => h, fun A hA => ?_⟩
      · by_cases e : c = (γ i).b
        · subst e; rw [hfree.c] at hv; cases hv
        · show (if c = (γ i).b then _ else H.c c o) = some v
          rw [if_neg e]; exact hv
      · by_cases e : c = (γ i).b
        · subst e
          simp only [if_true] at hv
          rw [List.getElem?_take] at hv
          split at hv
          · rw [cell_of_block h4]; exact hv
          · cases hv
        · simp only [if_neg e] at hv; exact sm.hok.c c o v hv
      · right
        simp only [if_true] at hu
        rw [List.getElem?_take] at hu
        split at hu
        · next ho =>
          have hk0 : 0 < k := by
            rcases Nat.eq_zero_or_pos k with h | h
            · rw [h] at ho; simp at ho
            · exact h
          have hj : o / k < xs.length := Nat.div_lt_of_lt_mul (by rw [Nat.mul_comm]; exact ho)
          have hcs : xs[o / k]? = some xs[o / k] := by simp [hj]
          have hlt : o % k < (xs[o / k]).length := by rw [hxk _ (List.getElem_mem hj)]; exact Nat.mod_lt _ hk0
          obtain ⟨u', h7, h8⟩ := hx xs[o / k] (List.getElem_mem hj) (xs[o / k][o % k]) (List.getElem_mem hlt)
          have h9 := h6 (o / k) (o % k) xs[o / k] (xs[o / k][o % k]) u hcs (by simp [hlt]) (by rw [Nat.div_add_mod']; exact hu)
          rw [h7] at h9
          cases h9; exact h8
        · cases hu
      · rcases hne with hne | hne
        · simp only [if_neg hne] at hu; exact hu
        · omega
      · have hA' := hA h0
        subst hA'
        rw [← hn]
        refine .sl k xs _ _ (γ i).b 0 (fun j l => us.getD (j * k + l) .nilIface) hxk hle (by omega) (fun _ => rfl) (fun j l hj hl => ?_) (fun j l cs a hj hl => ?_)
        · have hlt : j * k + l < xs.length * k := by
            calc j * k + l < j * k + k := by omega
              _ = (j + 1) * k := by rw [Nat.succ_mul]
              _ ≤ xs.length * k := Nat.mul_le_mul_right _ (by omega)
          simp only [if_true, Nat.zero_add]
          rw [List.getElem?_take, if_pos hlt]
          simp [List.getD, show j * k + l < us.length by omega]
        · have hjl := (List.getElem?_eq_some_iff.1 hj).1
          have hll : l < k := by rw [← hxk cs (mem_of_get hj)]; exact (List.getElem?_eq_some_iff.1 hl).1
          have hlt : j * k + l < xs.length * k := by
            calc j * k + l < j * k + k := by omega
              _ = (j + 1) * k := by rw [Nat.succ_mul]
              _ ≤ xs.length * k := Nat.mul_le_mul_right _ (by omega)
          have h9 := h6 j l cs a _ hj hl (show us[j * k + l]? = some (us.getD (j * k + l) .nilIface) by simp [List.getD, show j * k + l < us.length by omega])
          obtain ⟨u', h7, h8⟩ := hx cs (mem_of_get hj) a (mem_of_get hl)
          rw [h7] at h9 ⊢
          cases h9 with
          | v _ h => exact .v _ h
    · have hx0 : xs = [] := List.length_eq_zero_iff.1 (by omega)
      subst hx0
      refine ⟨H, HLe.refl _, sm.hok, fun o u h => .inl h, fun c o u h _ => h, fun _ _ h => h, fun A _ => ?_⟩
      have : n = 0 := by simpa using hn.symm
      subst this
      exact .sl k [] A _ 0 0 (fun _ _ => undef) (fun _ h => by simp at h) (Nat.zero_le _) (by simp) (fun h => by simp at h) (fun _ _ h => by simp at h) (fun _ _ _ _ h => by simp at h)
  have he : blks γ [] = fun _ => False := by funext b; simp [blks, look]
  have hmem : Mem w H1 (fun _ => False) γ H1 [] w := ⟨Keeps.refl _ _, HLe.refl _, HNew.refl _ _ _, ok1, fun i e h => by simp [look] at h, fun i e h => by simp [look] at h, fun i e h => by simp [look] at h, fun i e j e' b h => by simp [look] at h⟩
  have := hc X.ro γ H1 w (args.map a.eval).toList (hl.keep sm.keep (by rw [he]; exact fun b h => h.elim)) (by rw [he]; exact hmem) (by have := congrArg List.length (geAll_map ha); simp at this; simp; omega) (by
    have hg := ge_list hso (geAll_map ha)
    intro j b u hj hu
    obtain ⟨x, hx', hcase⟩ := vg j b hj
    have hr := hg j x u hx' (by simpa using hu)
    rcases hcase with ⟨rfl, _⟩ | ⟨rfl, rfl⟩
    · exact hr.mono l1
    · cases hr with
      | arr _ _ _ A h1 hA => exact .d _ _ (h1c A hA))
  simp only [Array.toArray_toList] at this
  refine this.mono ?_
  rintro e w' ⟨v, r', σ', γ', H2, rfl, rfl, hr, _, _, hm2⟩
  rw [he] at hm2
  by_cases h0 : 0 < (γ i).n
  · have hfree := sm.free i _ hi _ ⟨rfl, h0⟩
    have hblt : (γ i).b < w.heap.size := (sm.ent i _ hi).lt (b := (γ i).b) ⟨rfl, h0⟩
    have hb2 : ∀ o u, H2.c (γ i).b o = some u → p u = true := fun o u hu => by
      rcases hm2.hnew.c _ o u hu with h | h | h
      · rcases h1b o u h with h | h
        · rw [hfree.c] at h; cases h
        · exact h
      · omega
      · exact h.elim
    have hmC : Mem w H (fun _ => False) γ' (H2.cut (γ i).b) [] w' := by
      refine ⟨hm2.keep, ⟨fun c o u h => ?_, fun c x h => ?_⟩, ⟨fun c o u h => ?_, fun c x h => ?_⟩, ⟨fun c o u h => ?_, fun c es cl h => ?_⟩, fun i e h => by simp [look] at h, fun i e h => by simp [look] at h, fun i e h => by simp [look] at h, fun i e j e' b h => by simp [look] at h⟩
      · have hne : c ≠ (γ i).b := fun e => by subst e; rw [hfree.c] at h; cases h
        show (if c = (γ i).b then none else H2.c c o) = some u
        rw [if_neg hne]; exact hm2.hle.c _ _ _ (l1.c _ _ _ h)
      · have hne : c ≠ (γ i).b := fun e => by subst e; rw [hfree.m] at h; cases h
        show (if c = (γ i).b then none else H2.m c) = some x
        rw [if_neg hne]; exact hm2.hle.m _ _ (l1.m _ _ h)
      · by_cases e : c = (γ i).b
        · simp only [HF.cut, if_pos e] at h; cases h
        · simp only [HF.cut, if_neg e] at h
          rcases hm2.hnew.c c o u h with h1 | h1 | h1
          · exact .inl (n1 c o u h1 (.inl e))
          · exact .inr (.inl h1)
          · exact .inr (.inr h1)
      · by_cases e : c = (γ i).b
        · simp only [HF.cut, if_pos e] at h; cases h
        · simp only [HF.cut, if_neg e] at h
          rcases hm2.hnew.m c x h with h1 | h1 | h1
          · exact .inl (n2 c x h1)
          · exact .inr (.inl h1)
          · exact .inr (.inr h1)
      · by_cases e : c = (γ i).b
        · simp only [HF.cut, if_pos e] at h; cases h
        · simp only [HF.cut, if_neg e] at h; exact hm2.hok.c c o u h
      · by_cases e : c = (γ i).b
        · simp only [HF.cut, if_pos e] at h; cases h
        · simp only [HF.cut, if_neg e] at h; exact hm2.hok.m c es cl h
    exact hk v γ' [] _ w' hmC (.d _ _ ((rep_d hr).avoid p hb2 hs hy))
  · have hH : Mem w H (fun _ => False) γ' H2 [] w' := by
      refine ⟨hm2.keep, l1.trans hm2.hle, ⟨fun c o u h => ?_, fun c x h => ?_⟩, hm2.hok, fun i e h => by simp [look] at h, fun i e h => by simp [look] at h, fun i e h => by simp [look] at h, fun i e j e' b h => by simp [look] at h⟩
      · rcases hm2.hnew.c c o u h with h1 | h1 | h1
        · exact .inl (n1 c o u h1 (.inr (by omega)))
        · exact .inr (.inl h1)
        · exact .inr (.inr h1)
      · rcases hm2.hnew.m c x h with h1 | h1 | h1
        · exact .inl (n2 c x h1)
        · exact .inr (.inl h1)
        · exact .inr (.inr h1)
    exact hk v γ' [] _ w' hH (hr.free rfl)
end Go.Gv
namespace Go.Gv
open Go.RowKit
section nilsl
variable {X : Cx} {d : Option Nat} {ty : TypeId} {pos : String} {aft : Array Edge} {g : Option (Nat × Bool)} {t : T} {σ : Sg} {K : T → Sg → Prop}
theorem eqn_slice' {P : Program} {tt e : TypeId} {w : World} (n : Nat) {A : Option Addr} {a b : Nat} (hu : P.underlying tt = some (.slice e)) : (Op.equalIn (n + 1) tt (.slice A a b) (.slice none 0 0)).run P w = .ok A.isNone w := by cases A <;> simp [Op.equalIn, underlying, hu]
/-- Is a slice nil? One that is not empty isn't. -/
theorem O.eqNil {x y : Operand} {ot yt e : TypeId} {k : Nat} {xs : List (List D)} (hx : ge t x = some (.d (.sl k xs))) (hy : ge t y = some (.d (.v (.slice none 0 0)))) (hu : X.P.underlying ot = some (.slice e)) (hN : dOk d X.N = true)
    (kk : ∀ b : Bool, (b = true → xs = []) → K (putT d (.d (.v (.bool b))) t) σ) : OpJ X ⟨d, .binOp .eql ot x y yt, ty, pos, aft, g⟩ t σ K := by
  intro γ H a w s next Q' hk
  have hr := rep_d (ge_sound s.tmp hx)
  have e2 := rep_v (ge_sound s.tmp hy)
  generalize hq : a.eval x = q at hr
  cases hr with
  | sl _ _ A c b o us hkk hn hc hA hH hrr =>
  have hexec : (execOp a.eval ⟨d, .binOp .eql ot x y yt, ty, pos, aft, g⟩).run X.P w = .ok (.value (.bool A.isNone)) w := by
    have h9 : (Op.equal ot (.slice A xs.length c) (.slice none 0 0)).run X.P w = .ok A.isNone w := equal_at.trans (eqn_slice' 9999 hu)
    simp [execOp, hq, e2, eqGuard, binOp, h9]
  rw [semAt_of (by simp), hexec, Oper.uponIn_value]
  refine hk γ H _ _ _ w (s.calm (d := d) (V := .d (.v (.bool A.isNone))) (s.mem.refl γ) hN (.d _ _ (.v _ rfl))) (kk _ fun hb => ?_)
  rcases Nat.eq_zero_or_pos xs.length with h | h
  · exact List.length_eq_zero_iff.1 h
  · rw [hA h] at hb; cases hb
end nilsl
/-- A contract, its arguments told otherwise. -/
theorem Ct.view {Λ : Amb} {P : Program} {f : FuncId} {avs bvs : List AV} {σ : Sg} {Q : AV → Sg → Prop} (h : Ct Λ P f avs σ Q) (hl : bvs.length = avs.length)
    (hv : ∀ (j : Nat) (a b : AV), avs[j]? = some a → bvs[j]? = some b → ∀ γ H u, Rep γ H b u → Rep γ H a u) : Ct Λ P f bvs σ Q :=
  fun ro γ H w vs h1 h2 h3 h4 => h ro γ H w vs h1 h2 (h3.trans hl) fun j a u ha hu => by
    have hj : j < bvs.length := by rw [hl]; exact (List.getElem?_eq_some_iff.1 ha).1
    exact hv j a bvs[j] ha (by simp [hj]) γ H u (h4 j bvs[j] u (by simp [hj]) hu)
end Go.Gv
namespace Go.Gv
open Go.RowKit
section birth
variable {X : Cx} {d : Option Nat} {ty : TypeId} {pos : String} {aft : Array Edge} {g : Option (Nat × Bool)} {t : T} {σ : Sg}
/-- append onto data that has no room: the birth of a private row. -/
theorem B.appendF {i : Nat} {x y : Operand} {st xt el : TypeId} {k bytes : Nat} {z : Value} {xs ys : List (List D)} {av0 : AV} (hx : ge t x = some av0) (hfu : FullIs av0 k xs) (hy : FlatQ X t σ y k ys)
    (hu : X.P.underlying st = some (.slice el)) (hxu : X.P.underlying xt = some (.slice el)) (hz : ∀ w, (sizeOf el).run X.P w = .ok k w) (hzv : ∀ w, (zeroValue el).run X.P w = .ok z w) (hzl : z.cells.size = k)
    (hb : ∀ w, ((fun i : TypeInfo => i.bytes) <$> typeInfo el).run X.P w = .ok bytes w) (hb0 : bytes ≠ 0) (hbytes : (3 * (xs.length + ys.length) + 4096) * bytes ≤ 281474976710656) (hne : ys ≠ [] ∨ xs = []) :
    BirthJ X ⟨d, .call { callee := .builtin .append, args := #[x, y], argTypes := #[st, xt] }, ty, pos, aft, g⟩ t σ i (.arr i k (xs.length + ys.length)) (.arr k (xs ++ ys)) := by
  intro γ H a w so sm
  obtain ⟨A, hq, hrx⟩ := hfu.rep (so x (by simp [Op.operands, Call.operands]) _ hx)
  obtain ⟨hxk, _⟩ := repd_sl_len hrx
  obtain ⟨vs, hfv⟩ := hy γ H a w (fun v hv => so y (by simp [Op.operands, Call.operands]) v hv) sm
  obtain ⟨Bx, cx, us, hqx, hfx, hul, huone, hurep⟩ := repd_flat (P := X.P) hrx
  have hexec : ∀ (v : Value) (w' : World), (Builtin.append_ #[st, xt] ty #[.slice A xs.length xs.length, a.eval y]).run X.P w = .ok v w' → ((⟨d, .call { callee := .builtin .append, args := #[x, y], argTypes := #[st, xt] }, ty, pos, aft, g⟩ : Oper).semAt X.ro a.eval).run X.P w = .ok (.value v) w' := fun v w' h => by
    rw [semAt_of (by simp)]
    simp only [execOp, resolve, invoke, builtin, List.map_toArray, List.map_cons, List.map_nil, Sem.run_bind, Sem.run_pure, Result.andThen_ok, hq, h]
  by_cases hroom : xs.length + ys.length ≤ xs.length
  · have hy0 : ys = [] := List.length_eq_zero_iff.1 (by omega)
    have hx0 : xs = [] := by rcases hne with h | h; exact absurd hy0 h; exact h
    subst hx0; subst hy0
    have hrun := append_room (P := X.P) (w := w) (ty := ty) (A := A) (n := 0) (c := 0) hu hxu hz hfv.ln (hfv.fc w rfl) (Nat.le_refl _)
    have hv0 : vs = [] := List.length_eq_zero_iff.1 (by rw [hfv.vl]; simp)
    subst hv0
    have hrun' : (Builtin.append_ #[st, xt] ty #[.slice A ([] : List (List D)).length ([] : List (List D)).length, a.eval y]).run X.P w = .ok (.slice A 0 0) w := by
      simp only [List.length_nil] at hrun ⊢
      rw [hrun]; cases A <;> simp [storeCells]
    refine ⟨_, 0, w, hexec _ _ hrun', mem_arr0 sm.hok γ i k, ?_⟩
    have := Rep.arr (γ := upd γ i ⟨w.heap.size, 0, fun _ => False⟩) (H := H) i k 0 A
    rw [upd_same] at this
    exact this (Nat.zero_le _) (fun h => by simp at h)
  · have hus : ∀ w' : World, w'.heap = w.heap → (Builtin.firstCells k xs.length (.slice A xs.length xs.length)).run X.P w' = .ok us.toArray w' := fun w' hw' => by
      rw [← hq]
      exact hfx w' fun b o v h => by
        have := sm.hok.c b o v h
        simp only [World.cell?, hw'] at this ⊢; exact this
    obtain ⟨cap, hcap, hrun⟩ := append_grow (P := X.P) (w := w) (ty := ty) (A := A) (n := xs.length) (c := xs.length) (us := us) (vs := vs) hu hxu hz hzv hb hfv.ln hfv.fc hus (by omega) hbytes hb0
    have hzc : (Builtin.zeroCells z.cells (cap - (xs.length + ys.length))).toList.length = (cap - (xs.length + ys.length)) * k := by
      simp [Builtin.zeroCells, hzl]
    have hm0 := sm.drew.new i (.arr k (xs ++ ys)) (.cells (us ++ vs ++ (Builtin.zeroCells z.cells (cap - (xs.length + ys.length))).toList).toArray el) cap
      ⟨by rw [upd_same, List.length_append]; exact hcap, fun cs hcs => by rcases List.mem_append.1 hcs with h | h; exact hxk cs h; exact hfv.yk cs h, fun _ => by
        rw [upd_same]
        refine ⟨el, _, World.alloc_heap_new _ _, ?_, ?_⟩
        · rw [List.length_append, List.length_append, hzc, hul, hfv.vl, ← Nat.add_mul, ← Nat.add_mul]
          congr 1
          show xs.length + ys.length + (cap - (xs.length + ys.length)) = cap
          omega
        · have hvl := hfv.vl
          refine arr_snoc hxk hfv.yk hurep hfv.rp (fun p hp => ?_) (fun p hp => ?_)
          · rw [List.append_assoc, List.getElem?_append_left (by omega)]
          · rw [List.append_assoc, List.getElem?_append_right (by omega), hul, show xs.length * k + p - xs.length * k = p from by omega, List.getElem?_append_left (by omega)]⟩ (fun _ _ h => by cases h)
    have hm' : Mem w H (fun _ => False) (upd γ i ⟨w.heap.size, cap, fun _ => False⟩) H [(i, .arr k (xs ++ ys))] (w.drew.alloc (.cells (us ++ vs ++ (Builtin.zeroCells z.cells (cap - (xs.length + ys.length))).toList).toArray el)) :=
      ⟨⟨hm0.keep.os, hm0.keep.tape, hm0.keep.output, hm0.keep.size, hm0.keep.block⟩, hm0.hle, ⟨hm0.hnew.c, hm0.hnew.m⟩, hm0.hok, hm0.ent, hm0.free, hm0.fresh, hm0.apart⟩
    refine ⟨_, cap, _, hexec _ _ hrun, hm', ?_⟩
    have := Rep.arr (γ := upd γ i ⟨w.heap.size, cap, fun _ => False⟩) (H := H) i k (xs.length + ys.length) (some ⟨w.heap.size, 0, none⟩)
    rw [upd_same] at this
    exact this hcap (fun _ => rfl)
theorem B.appF {i : Nat} {x y : Operand} {st xt : TypeId} {k : Nat} {xs ys : List (List D)} {av0 : AV} (hx : ge t x = some av0) (hfu : FullIs av0 k xs) (hy : FlatQ X t σ y k ys) (hI : elInfo X.P st xt = some k) (hb : xs.length + ys.length ≤ 1000000000) (hne : ys ≠ [] ∨ xs = []) :
    BirthJ X ⟨d, .call { callee := .builtin .append, args := #[x, y], argTypes := #[st, xt] }, ty, pos, aft, g⟩ t σ i (.arr i k (xs.length + ys.length)) (.arr k (xs ++ ys)) := by
  obtain ⟨el, z, bytes, h1, h2, h3, h4, h5, h6, h7, h8⟩ := elInfo_out hI
  exact B.appendF hx hfu hy h1 h2 h3 h4 h5 h6 h7 (bytes_fit hb h8) hne
end birth
end Go.Gv
end
section
open Go Go.Gv
attribute [local irreducible] Go.Gv.WJ Go.Gv.OpJ Go.Gv.QJ Go.Gv.Spl Go.Gv.Req Go.Gv.IdxP Go.Gv.RegP Go.Gv.FinP Go.Gv.CellP Go.Gv.CellsP Go.Gv.ArrP Go.Gv.ArrsP Go.Gv.DropP Go.Gv.ByteP Go.Gv.StoreP
set_option maxRecDepth 100000
namespace Go.Proofs.E
theorem insO_at (o : OP) : ∀ ks : List OP, insO o ks = ks.take (pos1 o ks) ++ o :: ks.drop (pos1 o ks)
  | [] => rfl
  | k :: r => by
    rw [insO, pos1]
    split
    · rw [List.take_succ_cons, List.drop_succ_cons, insO_at o r]; rfl
    · rfl
theorem kids_take {l : List OP} {i : Nat} {x : OP} (h : l[i]? = some x) (a : ID) : kids (insL (l.take (i + 1))) a = if x.k = 0 ∧ x.a = a then insO x (kids (insL (l.take i)) a) else kids (insL (l.take i)) a := by
  rw [take_snoc h]
  by_cases hk : x.k = 0
  · rw [insL_snoc0 hk, kids_snoc]
    by_cases ha : x.a = a
    · rw [if_pos ha, if_pos ⟨hk, ha⟩]
    · rw [if_neg ha, if_neg (fun e => ha e.2)]
  · rw [insL_snoc1 hk, if_neg (fun e => hk e.1)]
theorem kidsO_len (I : List OP) (a : ID) : (kids I a).length ≤ I.length := by
  have : ∀ (J ks : List OP), (kidsL a J ks).length ≤ J.length + ks.length := fun J => by
    induction J with
    | nil => intro ks; simp [kidsL]
    | cons o J ih =>
      intro ks
      rw [kidsL, List.length_cons]
      have hins : ∀ ks : List OP, (insO o ks).length = ks.length + 1 := fun ks => by
        rw [insO_at, List.length_append, List.length_cons, List.length_take, List.length_drop]
        have := pos1_le o ks; omega
      split
      · have := ih (insO o ks); rw [hins] at this; omega
      · have := ih ks; omega
  unfold kids; simpa using this I []
theorem ins_row (x : OP) (ks : List OP) (m : Nat) (h : m = pos1 x ks) : (ks.map opD).take m ++ ([opD x] ++ ((ks.map opD).drop ((m : Int).toNat)).take (ks.length - ((m : Int).toNat))) = (insO x ks).map opD := by
  rw [insO_at, ← h, Int.toNat_natCast, List.map_append, List.map_cons, List.map_take, List.map_drop, List.take_of_length_le (l := List.drop m _) (by rw [List.length_drop, List.length_map]; exact Nat.le_refl _)]; rfl
theorem ins_len (x : OP) (ks : List OP) (m : Nat) (hm : m ≤ ks.length) (h : m = pos1 x ks) : ((m : Int).toNat) + ([opD x] ++ ((ks.map opD).drop ((m : Int).toNat)).take (ks.length - ((m : Int).toNat))).length = (insO x ks).length := by
  have h2 := congrArg List.length (ins_row x ks m h)
  rw [List.length_append, List.length_map, List.length_take, List.length_map] at h2
  rw [← h2, Int.toNat_natCast]; omega
theorem flat_take (F : ID → List OP) (ks : List OP) (j : Nat) {k : OP} (h : ks[j]? = some k) : (ks.take (j + 1)).flatMap (fun k => k :: F k.i) = (ks.take j).flatMap (fun k => k :: F k.i) ++ (k :: F k.i) := by
  rw [take_snoc h, List.flatMap_append]; simp
theorem flat_take_le (F : ID → List OP) (ks : List OP) (j : Nat) : ((ks.take j).flatMap (fun k => k :: F k.i)).length ≤ (ks.flatMap (fun k => k :: F k.i)).length := by
  have := congrArg (fun l : List OP => (l.flatMap (fun k => k :: F k.i)).length) (List.take_append_drop j ks)
  simp only [List.flatMap_append, List.length_append] at this
  omega
theorem row_appE (f : OP → EL) (A : List OP) (k : OP) (B : List OP) : ((A.map f).map elD ++ [elD (f k)]) ++ (B.map f).map elD = ((A ++ (k :: B)).map f).map elD := by simp
theorem row_appL (f : OP → EL) (A : List OP) (k : OP) (B : List OP) : ((A.map f).length + 1) + ((B.map f).map elD).length = ((A ++ (k :: B)).map f).length := by simp; omega
theorem follow_step (l : List OP) (hl : l.length ≤ 1000000) (a : ID) (F : ID → List OP) (hF : ((kids (insL l) a).flatMap fun k => k :: F k.i).length ≤ 1000000)
    (ih : ∀ k, k ∈ kids (insL l) a → Cv 115 [.d (.sl 6 (l.map opD)), idv k.i] (.d (.sl 4 (((F k.i).map (elO l)).map elD)))) :
    Cv 115 [.d (.sl 6 (l.map opD)), idv a] (.d (.sl 4 ((((kids (insL l) a).flatMap fun k => k :: F k.i).map (elO l)).map elD))) := by
  refine Ct.of_wv Tryz.f115 Tryz.func115 rfl rfl fun w H B g0 => ?_
  try refine WJ.cut ?_
  (first | refine Sq.go ?_ | refine vL_nil (Sq.go ?_) | skip)
  try refine WJ.cut ?_
  (first | refine Sq.go ?_ | refine vL_nil (Sq.go ?_) | skip)
  try refine WJ.cut ?_
  refine WJ.shift (SJ.nilArr 1000 5 6 rfl rfl) ?_
  refine WJ.loopK (V := Nat) (fun i => [(6, iv i), (5, .arr 1000 6 (kids (insL (l.take i)) a).length)]) (fun i => [(1000, .arr 6 ((kids (insL (l.take i)) a).map opD))]) [1000] (fun i => l.length - i) (fun i => i ≤ l.length) 0 (by omega) (by repeat' (first | exact trivial | exact rfl | refine And.intro ?_ ?_)) (by repeat' (first | exact trivial | exact rfl | refine And.intro ?_ ?_)) ?_
  intro i hi
  have hkl := kidsO_len (insL (l.take i)) a
  have hil := insL_le (l.take i)
  have htl := List.length_take (i := i) (l := l)
  refine Spl.of (fun h1 => ?_) (fun h1 => ?_)
  · have hlt : i < l.length := by have := of_decide_eq_true h1; simp at this; omega
    have hx : l[i]? = some l[i] := by simp
    have hk := kids_take hx a
    generalize l[i] = x at hx hk
    generalize kids (insL (l.take i)) a = ks at hk hkl
    (repeat (first | refine Spl.t rfl ?_ | refine Spl.f rfl ?_))
    refine RegP.of rfl (by decide +kernel) ?_
    refine IdxP.of (opD x) (by omega) (by simp [hx]) ?_
    refine Spl.of (fun h2 => ?_) (fun h2 => ?_)
    · have h2 : x.k ≠ 0 := by simpa using h2
      rw [if_neg (fun e => h2 e.1)] at hk
      (repeat (first | refine Spl.t rfl ?_ | refine Spl.f rfl ?_))
      exact ⟨i + 1, by omega, by omega, ⟨some_iv (wrap_id _ (by omega) (by omega)), some_arr (by rw [hk]), trivial⟩, (by repeat' (first | exact trivial | exact rfl | refine And.intro ?_ ?_)), ⟨some_ear (by rw [hk]), trivial⟩, (by repeat' (first | exact trivial | exact rfl | refine And.intro ?_ ?_))⟩
    · have h2 : x.k = 0 := by simpa using h2
      (repeat (first | refine Spl.t rfl ?_ | refine Spl.f rfl ?_))
      refine IdxP.of (opD x) (by omega) (by simp [hx]) ?_
      (repeat (first | refine Spl.t rfl ?_ | refine Spl.f rfl ?_))
      refine QuietP.of (O.neT 3 rfl rfl rfl rfl rfl eqR_ok eqR_g (eqR x.a a)) ?_
      (repeat (first | refine Spl.t rfl ?_ | refine Spl.f rfl ?_))
      refine Spl.of (fun h3 => ?_) (fun h3 => ?_)
      · have h3 : x.a ≠ a := by simpa using h3
        rw [if_neg (fun e => h3 e.2)] at hk
        (repeat (first | refine Spl.t rfl ?_ | refine Spl.f rfl ?_))
        exact ⟨i + 1, by omega, by omega, ⟨some_iv (wrap_id _ (by omega) (by omega)), some_arr (by rw [hk]), trivial⟩, (by repeat' (first | exact trivial | exact rfl | refine And.intro ?_ ?_)), ⟨some_ear (by rw [hk]), trivial⟩, (by repeat' (first | exact trivial | exact rfl | refine And.intro ?_ ?_))⟩
      · have h3 : x.a = a := by simpa using h3
        rw [if_pos ⟨h2, h3⟩] at hk
        have hp1 := pos1_le x ks
        (repeat (first | refine Spl.t rfl ?_ | refine Spl.f rfl ?_))
        refine WJ.loopK (V := Nat) (fun m => [(7, iv m)]) (fun _ => []) [] (fun m => ks.length - m) (fun m => m ≤ ks.length ∧ m + pos1 x (ks.drop m) = pos1 x ks) 0 ⟨by omega, by simp⟩ (by repeat' (first | exact trivial | exact rfl | refine And.intro ?_ ?_)) (by repeat' (first | exact trivial | exact rfl | refine And.intro ?_ ?_)) ?_
        have hsz : ∀ m : Nat, [opD x].length + (((ks.map opD).drop ((m : Int).toNat)).take (ks.length - ((m : Int).toNat))).length ≤ 1000000000 := fun m => by
          rw [List.length_take, List.length_drop, List.length_map]; simp only [List.length_singleton]; omega
        rintro m ⟨hm, hmp⟩
        refine RegP.of rfl (by decide +kernel) ?_
        refine Spl.of (fun h4 => ?_) (fun h4 => ?_)
        · have h4 : m < ks.length := by have := of_decide_eq_true h4; omega
          have hy : ks[m]? = some ks[m] := by simp
          (repeat (first | refine Spl.t rfl ?_ | refine Spl.f rfl ?_))
          refine IdxP.of (opD x) (by omega) (by simp [hx]) ?_
          (repeat (first | refine Spl.t rfl ?_ | refine Spl.f rfl ?_))
          refine Req.of ⟨by omega, by omega⟩ ?_
          (repeat (first | refine Spl.t rfl ?_ | refine Spl.f rfl ?_))
          refine ArrsP.of m 1 (opD ks[m]) [.v (.int .i64 ks[m].i.c), .v (.int .i64 ks[m].i.s)] rfl (by simp [hy]) (show 1 + 2 ≤ 6 by decide) rfl ?_
          (repeat (first | refine Spl.t rfl ?_ | refine Spl.f rfl ?_))
          refine QuietP.of (QJ.call (RLess_c x.i ks[m].i) (fun _ _ => rfl) rfl rfl) ?_
          rw [List.drop_eq_getElem_cons h4, pos1] at hmp
          refine Spl.of (fun h5 => ?_) (fun h5 => ?_)
          · rw [if_pos h5] at hmp
            (repeat (first | refine Spl.t rfl ?_ | refine Spl.f rfl ?_))
            exact ⟨m + 1, ⟨by omega, by omega⟩, by omega, ⟨some_iv (wrap_id _ (by omega) (by omega)), trivial⟩, (by repeat' (first | exact trivial | exact rfl | refine And.intro ?_ ?_)), (by repeat' (first | exact trivial | exact rfl | refine And.intro ?_ ?_)), (by repeat' (first | exact trivial | exact rfl | refine And.intro ?_ ?_))⟩
          · rw [if_neg (by rw [h5]; decide)] at hmp
            (repeat (first | refine Spl.t rfl ?_ | refine Spl.f rfl ?_))
            have hmeq : m = pos1 x ks := by omega
            have hsz := hsz m
            (refine RegP.mix 12 rfl (by decide +kernel) ?_; refine QuietP.of (O.cutPre rfl rfl rfl rfl (by omega) (by omega)) ?_; refine IdxP.of (opD x) (by omega) (by simp [hx]) ?_; refine QuietP.of (O.cutSuf rfl rfl rfl rfl (by omega) (by omega)) ?_; refine QuietP.of (QJ.appG rfl (.full _ _) (FlatQ.suf rfl rfl (by rw [List.length_map]; omega)) rfl hsz) ?_; (repeat' (refine And.intro ?_ ?_)); refine OpJ.shift (SJ.sufArr 52 rfl) (OpJ.shift (SJ.cutA 1000 m rfl) (eff_sound ?_)); refine Req.of ⟨?_, ?_⟩ ?_; (rw [List.length_take, List.length_map]; omega); (rw [List.length_append, List.length_take, List.length_drop, List.length_map]; show _ + (1 + _) ≤ _; omega); (repeat' (refine And.intro ?_ ?_)); exact ⟨i + 1, by omega, by omega, ⟨some_iv (wrap_id _ (by omega) (by omega)), some_arr (by rw [hk]; exact ins_len x ks m hm hmeq), trivial⟩, (by repeat' (first | exact trivial | exact rfl | refine And.intro ?_ ?_)), ⟨some_ear (by rw [hk]; exact ins_row x ks m hmeq), trivial⟩, (by repeat' (first | exact trivial | exact rfl | refine And.intro ?_ ?_))⟩)
        · have h4 : ¬ m < ks.length := by have := of_decide_eq_false h4; omega
          rw [List.drop_eq_nil_of_le (by omega), pos1] at hmp
          have hmeq : m = pos1 x ks := by omega
          have hsz := hsz m
          (repeat (first | refine Spl.t rfl ?_ | refine Spl.f rfl ?_))
          (refine RegP.mix 12 rfl (by decide +kernel) ?_; refine QuietP.of (O.cutPre rfl rfl rfl rfl (by omega) (by omega)) ?_; refine IdxP.of (opD x) (by omega) (by simp [hx]) ?_; refine QuietP.of (O.cutSuf rfl rfl rfl rfl (by omega) (by omega)) ?_; refine QuietP.of (QJ.appG rfl (.full _ _) (FlatQ.suf rfl rfl (by rw [List.length_map]; omega)) rfl hsz) ?_; (repeat' (refine And.intro ?_ ?_)); refine OpJ.shift (SJ.sufArr 52 rfl) (OpJ.shift (SJ.cutA 1000 m rfl) (eff_sound ?_)); refine Req.of ⟨?_, ?_⟩ ?_; (rw [List.length_take, List.length_map]; omega); (rw [List.length_append, List.length_take, List.length_drop, List.length_map]; show _ + (1 + _) ≤ _; omega); (repeat' (refine And.intro ?_ ?_)); exact ⟨i + 1, by omega, by omega, ⟨some_iv (wrap_id _ (by omega) (by omega)), some_arr (by rw [hk]; exact ins_len x ks m hm hmeq), trivial⟩, (by repeat' (first | exact trivial | exact rfl | refine And.intro ?_ ?_)), ⟨some_ear (by rw [hk]; exact ins_row x ks m hmeq), trivial⟩, (by repeat' (first | exact trivial | exact rfl | refine And.intro ?_ ?_))⟩)
  · have h1 := of_decide_eq_false h1
    simp at h1
    have hall : l.take i = l := List.take_of_length_le (by omega)
    rw [hall] at hkl
    rw [hall]
    generalize kids (insL l) a = ks at hF ih hkl
    have hll := insL_le l
    (repeat (first | refine Spl.t rfl ?_ | refine Spl.f rfl ?_))
    (first | refine Sq.go ?_ | refine vL_nil (Sq.go ?_) | skip)
    try refine WJ.cut ?_
    (first | refine Sq.go ?_ | refine vL_nil (Sq.go ?_) | skip)
    try refine WJ.cut ?_
    refine WJ.shift (SJ.nilArr 1001 8 4 rfl rfl) ?_
    refine WJ.loopK (V := Nat) (fun j => [(9, iv j), (8, .arr 1001 4 (((ks.take j).flatMap fun k => k :: F k.i).map (elO l)).length)]) (fun j => [(1001, .arr 4 ((((ks.take j).flatMap fun k => k :: F k.i).map (elO l)).map elD))]) [1001] (fun j => ks.length - j) (fun j => j ≤ ks.length) 0 (by omega) (by repeat' (first | exact trivial | exact rfl | refine And.intro ?_ ?_)) (by repeat' (first | exact trivial | exact rfl | refine And.intro ?_ ?_)) ?_
    intro j hj
    have hle := flat_take_le F ks j
    have htj := flat_take_le F ks (j + 1)
    refine Spl.of (fun h2 => ?_) (fun h2 => ?_)
    · have hlt : j < ks.length := by have := of_decide_eq_true h2; omega
      have hx : ks[j]? = some ks[j] := by simp
      have hih := ih ks[j] (List.getElem_mem hlt)
      have hsn := flat_take F ks j hx
      generalize ks[j] = k at hx hih hsn
      rw [hsn, List.length_append, List.length_cons] at htj
      have hdead : decide (hasIx 1 k.i l ≥ 0) = deadO l k.i := by
        unfold deadO
        rcases hasIx_is 1 k.i l with ⟨e1, e2⟩ | ⟨n, x, e1, _, e2⟩
        · rw [e1, e2]; rfl
        · rw [e1, e2, decide_eq_true (by omega)]; rfl
      (repeat (first | refine Spl.t rfl ?_ | refine Spl.f rfl ?_))
      refine RegP.mix 21 rfl (by decide +kernel) ?_
      refine Req.of ⟨by omega, by omega⟩ ?_
      (repeat (first | refine Spl.t rfl ?_ | refine Spl.f rfl ?_))
      refine ArrsP.of j 1 (opD k) [.v (.int .i64 k.i.c), .v (.int .i64 k.i.s)] rfl (by simp [hx]) (show 1 + 2 ≤ 6 by decide) rfl ?_
      (repeat (first | refine Spl.t rfl ?_ | refine Spl.f rfl ?_))
      refine Req.of ⟨by omega, by omega⟩ ?_
      (repeat (first | refine Spl.t rfl ?_ | refine Spl.f rfl ?_))
      refine ArrP.of j 5 (opD k) (.v (.int .i32 k.ch)) rfl (by simp [hx]) rfl ?_
      (repeat (first | refine Spl.t rfl ?_ | refine Spl.f rfl ?_))
      refine Req.of ⟨by omega, by omega⟩ ?_
      (repeat (first | refine Spl.t rfl ?_ | refine Spl.f rfl ?_))
      refine ArrsP.of j 1 (opD k) [.v (.int .i64 k.i.c), .v (.int .i64 k.i.s)] rfl (by simp [hx]) (show 1 + 2 ≤ 6 by decide) rfl ?_
      (repeat (first | refine Spl.t rfl ?_ | refine Spl.f rfl ?_))
      refine QuietP.of (QJ.call (RHas_c l 1 k.i hl) (fun _ _ => rfl) rfl rfl) ?_
      (repeat' (refine And.intro ?_ ?_))
      refine Req.of ⟨by simp, ?_⟩ ?_
      · show _ + 1 ≤ 1000000000
        rw [List.length_map]; omega
      (repeat' (refine And.intro ?_ ?_))
      (repeat (first | refine Spl.t rfl ?_ | refine Spl.f rfl ?_))
      refine Req.of ⟨by omega, by omega⟩ ?_
      (repeat (first | refine Spl.t rfl ?_ | refine Spl.f rfl ?_))
      refine ArrsP.of j 1 (opD k) [.v (.int .i64 k.i.c), .v (.int .i64 k.i.s)] rfl (by simp [hx]) (show 1 + 2 ≤ 6 by decide) rfl ?_
      (repeat (first | refine Spl.t rfl ?_ | refine Spl.f rfl ?_))
      refine OpJ.callV hih (fun _ _ => rfl) rfl rfl rfl ?_
      refine Req.of ⟨by simp; try rfl, ?_⟩ ?_
      · rw [List.length_map, List.length_map, List.length_map]
        show _ + 1 + _ ≤ 1000000000
        omega
      refine ⟨j + 1, by omega, by omega, ⟨some_iv (wrap_id _ (by omega) (by omega)), some_arr ?_, trivial⟩, (by repeat' (first | exact trivial | exact rfl | refine And.intro ?_ ?_)), ⟨some_ear ?_, trivial⟩, (by repeat' (first | exact trivial | exact rfl | refine And.intro ?_ ?_))⟩
      · rw [hsn]; exact row_appL (elO l) _ k _
      · rw [hsn, hdead]; exact row_appE (elO l) _ k _
    · have h2 := of_decide_eq_false h2
      have hall2 : ks.take j = ks := List.take_of_length_le (by omega)
      rw [hall2]
      (repeat (first | refine Spl.t rfl ?_ | refine Spl.f rfl ?_))
      (first | refine Sq.go ?_ | refine vL_nil (Sq.go ?_) | skip)
      try refine vc_sound _ _ _ _ ?_
      refine FinP.pubA 1001 rfl (by simp) (by rw [List.length_map]; omega) (FinP.open rfl ?_)
      rw [List.take_of_length_le (by simp)]
end Go.Proofs.E
end
section
open Go Go.Gv
attribute [local irreducible] Go.Gv.WJ Go.Gv.OpJ Go.Gv.QJ Go.Gv.Spl Go.Gv.Req Go.Gv.IdxP Go.Gv.RegP Go.Gv.FinP Go.Gv.CellP Go.Gv.CellsP Go.Gv.ArrP Go.Gv.ArrsP Go.Gv.DropP Go.Gv.ByteP Go.Gv.StoreP
set_option maxRecDepth 100000
namespace Go.Proofs.E
attribute [local irreducible] elems
theorem getIx_none {a : ID} : ∀ {N : List IE}, alook a N = none → getIx a N = -1
  | [], _ => rfl
  | y :: l, h => by
    rw [alook] at h
    split at h
    · cases h
    · next hn => rw [getIx, if_neg (fun e => hn e.symm), getIx_none h]; rfl
theorem getIx_some {a : ID} {e : EN} : ∀ {N : List IE}, alook a N = some e → 0 ≤ getIx a N ∧ N[(getIx a N).toNat]? = some (a, e)
  | [], h => by cases h
  | y :: l, h => by
    rw [alook] at h
    split at h
    · next hy => cases h; rw [getIx, if_pos hy.symm]; exact ⟨by decide, by cases y; simp_all⟩
    · next hn =>
      obtain ⟨h1, h2⟩ := getIx_some h
      rw [getIx, if_neg (fun e => hn e.symm), if_neg (by omega)]
      refine ⟨by omega, ?_⟩
      rw [show (getIx a l + 1).toNat = (getIx a l).toNat + 1 by omega]
      simpa using h2
theorem rfold_done {a : ID} {e : EN} : ∀ (N out : List IE), (∀ y, y ∈ N → y.1 ≠ a) → N.foldl (rstep a e) (out, true) = (out ++ N, true)
  | [], out, _ => by simp
  | y :: l, out, h => by
    have : rstep a e (out, true) y = (out ++ [y], true) := by simp [rstep, h y (by simp)]
    rw [List.foldl_cons, this, rfold_done l _ fun z hz => h z (List.mem_cons_of_mem _ hz), List.append_assoc]; rfl
theorem rfold_ins {a : ID} {e : EN} : ∀ (N out : List IE), upM N → (if (N.foldl (rstep a e) (out, false)).2 = true then (N.foldl (rstep a e) (out, false)).1 else (N.foldl (rstep a e) (out, false)).1 ++ [(a, e)]) = out ++ insM a e N
  | [], out, _ => by simp [insM]
  | y :: l, out, h => by
    obtain ⟨h1, h2⟩ := List.pairwise_cons.1 h
    rw [List.foldl_cons, insM]
    by_cases hl : lessI y.1 a = true
    · have hne : ¬ a = y.1 := fun e => less_irr a (by rw [← e] at hl; exact hl)
      have hnl : ¬ lessI a y.1 = true := fun x => less_irr a (less_tr x hl)
      have : rstep a e (out, false) y = (out ++ [y], false) := by
        have hne' : ¬ y.1 = a := fun h => hne h.symm
        simp [rstep, hl, hne']
      rw [this, rfold_ins l _ h2, if_neg hnl, if_neg hne, List.append_assoc]; rfl
    · by_cases he : a = y.1
      · have hd : ∀ z, z ∈ l → z.1 ≠ a := fun z hz e => less_irr a (by have := h1 z hz; rw [e, ← he] at this; exact this)
        have : rstep a e (out, false) y = (out ++ [(a, e)], true) := by
          have h0 : lessI y.1 a = false := by simpa using hl
          simp only [rstep, h0]; simp [he]
        rw [this, rfold_done l _ hd, if_pos rfl, if_neg (by rw [he]; exact less_irr _), if_pos he, List.append_assoc]; rfl
      · have hl' := less_tot hl (fun e => he e.symm)
        have hd : ∀ z, z ∈ l → z.1 ≠ a := fun z hz e => less_irr a (by have := less_tr hl' (h1 z hz); rw [e] at this; exact this)
        have : rstep a e (out, false) y = (out ++ [(a, e)] ++ [y], true) := by
          have h0 : lessI y.1 a = false := by simpa using hl
          have hne' : ¬ y.1 = a := fun h => he h.symm
          simp only [rstep, h0]; simp [hne']
        rw [this, rfold_done l _ hd, if_pos rfl, if_pos hl']; simp
theorem refPut_ins {a : ID} {e : EN} {N : List IE} (h : upM N) : refPut a e N = insM a e N := by
  have := rfold_ins (e := e) (a := a) N [] h
  rw [List.nil_append] at this
  exact this
theorem len_ins_le {a : ID} {e : EN} {M : List IE} (h : upM M) : (insM a e M).length ≤ M.length + 1 := by
  rw [len_insM h]; split <;> omega
theorem ieRow (cs : List D) (h : (Ty.st [.st [.int .i64, .int .i64], .st [.st [.int .i64, .int .i64], .int .i32, .bool]]).ok cs) : ∃ x : IE, cs = reD x ∧ True := by
  obtain ⟨_, _, rfl, ⟨_, _, rfl, ⟨a0, rfl, _⟩, ⟨_, _, rfl, ⟨a1, rfl, _⟩, rfl⟩⟩, ⟨_, _, rfl, ⟨_, _, rfl, ⟨_, _, rfl, ⟨a2, rfl, _⟩, ⟨_, _, rfl, ⟨a3, rfl, _⟩, rfl⟩⟩, ⟨_, _, rfl, ⟨a4, rfl, _⟩, ⟨_, _, rfl, ⟨a5, rfl⟩, rfl⟩⟩⟩, rfl⟩⟩ := h
  exact ⟨(⟨a0, a1⟩, ⟨⟨a2, a3⟩, a4, a5⟩), rfl, trivial⟩
end Go.Proofs.E
end
