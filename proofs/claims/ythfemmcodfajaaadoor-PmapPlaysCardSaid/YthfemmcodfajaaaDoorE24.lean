/- The document's answer for maps of ids. -/
import Derived.Test.YthfemmcodfajaaaDoorE23
import Derived.Test.YthfemmcodfajaaaDoorE8
import Derived.Test.YthfemmcodfajaaaDoorEU
set_option linter.unusedVariables false
set_option linter.unusedSimpArgs false
open Go Go.Gv
attribute [local irreducible] Go.Gv.WJ Go.Gv.OpJ Go.Gv.QJ Go.Gv.Spl Go.Gv.Req Go.Gv.IdxP Go.Gv.RegP Go.Gv.FinP Go.Gv.QuietP Go.Gv.CellP Go.Gv.CellsP Go.Gv.ArrP Go.Gv.ArrsP Go.Gv.DropP Go.Gv.ByteP Go.Gv.StoreP
set_option maxRecDepth 100000
namespace Go.Proofs.E
abbrev reD (x : IE) : List D := [.v (.int .i64 x.1.c), .v (.int .i64 x.1.s), .v (.int .i64 x.2.a.c), .v (.int .i64 x.2.a.s), .v (.int .i32 x.2.ch), .v (.bool x.2.dead)]
abbrev reV (x : IE) : AV := .agg [iv x.1.c, iv x.1.s, iv x.2.a.c, iv x.2.a.s, cv' x.2.ch, bv x.2.dead]
theorem Of4_c (a : ID) (e : EN) : Cv 30 [idv a, env e] (reV (a, e)) := by
  refine Ct.of_vc Tryd.f30 Tryd.func30 rfl rfl fun w H B g0 => ?_
  refine RegP.of rfl (by decide +kernel) ?_
  refine QuietP.of (QJ.call (Of_c a) (fun _ _ => rfl) rfl rfl) ?_
  refine QuietP.of (QJ.call (Of_c e.a) (fun _ _ => rfl) rfl rfl) ?_
  exact FinP.open rfl rfl
theorem eqR (a b : ID) : eqT Tryd.prog 3 26 [.int .i64 a.c, .int .i64 a.s] [.int .i64 b.c, .int .i64 b.s] = some (decide (a = b)) := by
  show some (decide (a.c = b.c) && (decide (a.s = b.s) && true)) = _
  cases a; cases b; simp
theorem eqR_ok : eqOk Tryd.prog 3 26 = true := by kernel_rfl
theorem eqR_g : Tryd.prog.eqGuardType Tryd.prog.depth 26 = false := by kernel_rfl
def getIx (a : ID) : List IE → Int
  | [] => -1
  | y :: l => if y.1 = a then 0 else if getIx a l < 0 then -1 else getIx a l + 1
theorem getIx_drop (a : ID) (N : List IE) : ∀ i, i ≤ N.length → (∀ j y, j < i → N[j]? = some y → y.1 ≠ a) → getIx a N = if getIx a (N.drop i) < 0 then -1 else getIx a (N.drop i) + i
  | 0, _, _ => by
    rw [List.drop_zero]
    split
    · next h =>
      cases N with
      | nil => rfl
      | cons y l =>
        rw [getIx] at h ⊢
        split
        · next h2 => rw [if_pos h2] at h; omega
        · next h2 =>
          rw [if_neg h2] at h
          split
          · rfl
          · next h3 => rw [if_neg h3] at h; omega
    · simp
  | i + 1, hi, h => by
    have ih := getIx_drop a N i (by omega) fun j y hj => h j y (by omega)
    have hy := h i N[i] (by omega) (by simp)
    rw [ih, List.drop_eq_getElem_cons (by omega : i < N.length), getIx, if_neg hy]
    split
    · next h2 => simp
    · next h2 =>
      rw [if_neg (by omega)]
      omega
theorem RGet_c (N : List IE) (a : ID) (hN : N.length ≤ 1000000) : Cv 33 [.d (.sl 6 (N.map reD)), idv a] (iv (getIx a N)) := by
  refine Ct.of_vc Tryd.f33 Tryd.func33 rfl rfl fun w H B g0 => ?_
  refine WJ.loopK (V := Nat) (fun i => [(5, iv i)]) (fun _ => []) [] (fun i => N.length - i) (fun i => i ≤ N.length ∧ ∀ (j : Nat) (y : IE), j < i → N[j]? = some y → y.1 ≠ a) 0 ⟨by omega, fun j y h => by omega⟩ (by repeat' (first | exact trivial | exact rfl | refine And.intro ?_ ?_)) (by repeat' (first | exact trivial | exact rfl | refine And.intro ?_ ?_)) ?_
  intro i ⟨hi, hne⟩
  refine Spl.of (fun h1 => ?_) (fun h1 => ?_)
  · have hlt : i < N.length := by have := of_decide_eq_true h1; simp at this; omega
    have hx : N[i]? = some N[i] := by simp
    (repeat (first | refine Spl.t rfl ?_ | refine Spl.f rfl ?_))
    refine RegP.of rfl (by decide +kernel) ?_
    refine IdxP.of (reD N[i]) (by omega) (by simp [hx]) ?_
    refine QuietP.of (O.eqT 3 rfl rfl rfl rfl rfl eqR_ok eqR_g (eqR N[i].1 a)) ?_
    refine Spl.of (fun h2 => ?_) (fun h2 => ?_)
    · have he : N[i].1 = a := of_decide_eq_true h2
      (repeat (first | refine Spl.t rfl ?_ | refine Spl.f rfl ?_))
      refine FinP.open rfl (congrArg iv ?_)
      rw [getIx_drop a N i (by omega) hne, List.drop_eq_getElem_cons hlt, getIx, if_pos he]; simp
    · have he : ¬ N[i].1 = a := of_decide_eq_false h2
      (repeat (first | refine Spl.t rfl ?_ | refine Spl.f rfl ?_))
      exact ⟨i + 1, ⟨by omega, fun j y hj hy => by
        by_cases h : j = i
        · subst h; rw [hx] at hy; cases hy; exact he
        · exact hne j y (by omega) hy⟩, by omega, ⟨some_iv (wrap_id _ (by omega) (by omega)), trivial⟩, (by repeat' (first | exact trivial | exact rfl | refine And.intro ?_ ?_)), (by repeat' (first | exact trivial | exact rfl | refine And.intro ?_ ?_)), (by repeat' (first | exact trivial | exact rfl | refine And.intro ?_ ?_))⟩
  · have he : i = N.length := by have := of_decide_eq_false h1; simp at this; omega
    (repeat (first | refine Spl.t rfl ?_ | refine Spl.f rfl ?_))
    refine FinP.open rfl (congrArg iv ?_)
    rw [getIx_drop a N i (by omega) hne, he, List.drop_length]; rfl
def rstep (a : ID) (e : EN) (st : List IE × Bool) (y : IE) : List IE × Bool :=
  match !st.2 && !lessI y.1 a with
  | true => (if y.1 = a then st.1 ++ [(a, e)] else st.1 ++ [(a, e)] ++ [y], true)
  | false => (if y.1 = a then st.1 else st.1 ++ [y], st.2)
def rfold (a : ID) (e : EN) (N : List IE) : List IE × Bool := N.foldl (rstep a e) ([], false)
def refPut (a : ID) (e : EN) (N : List IE) : List IE := if (rfold a e N).2 = true then (rfold a e N).1 else (rfold a e N).1 ++ [(a, e)]
theorem rfold_snoc (a : ID) (e : EN) (N : List IE) (y : IE) : rfold a e (N ++ [y]) = rstep a e (rfold a e N) y := by simp [rfold]
theorem rstep_len (a : ID) (e : EN) (st : List IE × Bool) (y : IE) : (rstep a e st y).1.length ≤ st.1.length + 2 := by
  unfold rstep
  split
  · dsimp only; split <;> simp
  · dsimp only; split <;> simp
theorem rfold_len (a : ID) (e : EN) (N : List IE) : ∀ i, (rfold a e (N.take i)).1.length ≤ 2 * i
  | 0 => by simp [rfold]
  | i + 1 => by
    by_cases h : i < N.length
    · rw [take_snoc (x := N[i]) (by simp [h]), rfold_snoc]
      have := rstep_len a e (rfold a e (N.take i)) N[i]
      have := rfold_len a e N i
      omega
    · have := rfold_len a e N i
      rw [List.take_of_length_le (by omega)]
      rw [List.take_of_length_le (by omega)] at this
      omega
abbrev putT (a : ID) (i : Nat) (st : List IE × Bool) : T := [(8, iv i), (7, bv st.2), (6, .arr 6 6 st.1.length)]
theorem rput_fin {X : Cx} {σ : Sg} {Q : AV → Sg → Prop} {L : List IE} {n : Nat} {b : Bool} (hi : Gv.look 6 σ = some (.arr 6 (L.map reD))) (hn : n = L.length) (hl : L.length ≤ 10000000) (hq : Q (.tup [.d (.sl 6 (L.map reD)), bv b]) []) : FinP X σ (.tup [.arr 6 6 n, bv b]) Q := by
  subst hn
  refine FinP.pubTup 6 0 hi rfl (by simp) (by omega) (FinP.open rfl ?_)
  rw [List.take_of_length_le (by simp)]; exact hq
theorem RPut_c (N : List IE) (a : ID) (e : EN) (hN : N.length ≤ 1000000) : Cv 29 [.d (.sl 6 (N.map reD)), reV (a, e)]
    (if mayI a = true then .tup [.d (.sl 6 ((refPut a e N).map reD)), bv true] else .tup [.d (.sl 6 (N.map reD)), bv false]) := by
  refine Ct.of_vc Tryd.f29 Tryd.func29 rfl rfl fun w H B g0 => ?_
  refine OpJ.callV (May_c a) (fun _ _ => rfl) rfl rfl rfl ?_
  (repeat (first | refine Spl.t rfl ?_ | refine Spl.f rfl ?_))
  refine Spl.of (fun h => ?_) (fun h => ?_)
  · have hm : ¬ mayI a = true := by simpa using h
    rw [if_neg hm]
    (repeat (first | refine Spl.t rfl ?_ | refine Spl.f rfl ?_))
    exact FinP.open rfl rfl
  · have hm : mayI a = true := by simpa using h
    rw [if_pos hm]
    (repeat (first | refine Spl.t rfl ?_ | refine Spl.f rfl ?_))
    refine WJ.shift (SJ.nilArr 6 6 6 rfl rfl) ?_
    refine WJ.loopK (V := Nat × List IE × Bool) (fun v => putT a v.1 v.2) (fun v => [(6, .arr 6 (v.2.1.map reD))]) [6] (fun v => N.length - v.1) (fun v => v.1 ≤ N.length ∧ v.2 = rfold a e (N.take v.1)) (0, [], false) ⟨by simp, by simp [rfold]⟩ (by repeat' (first | exact trivial | exact rfl | refine And.intro ?_ ?_)) (by repeat' (first | exact trivial | exact rfl | refine And.intro ?_ ?_)) ?_
    rintro ⟨i, out, dn⟩ ⟨hi, hst⟩
    simp only at hi hst
    have hol := rfold_len a e N i
    rw [← hst] at hol
    simp only at hol
    refine Spl.of (fun h1 => ?_) (fun h1 => ?_)
    · have hlt : i < N.length := by have := of_decide_eq_true h1; simp at this; omega
      have hx : N[i]? = some N[i] := by simp
      have hnx : rfold a e (N.take (i + 1)) = rstep a e (out, dn) N[i] := by rw [take_snoc hx, rfold_snoc, ← hst]
      have bi : out.length + 2 ≤ 10000000 := by omega
      cases dn with
      | true =>
        (repeat (first | refine Spl.t rfl ?_ | refine Spl.f rfl ?_))
        refine RegP.of rfl (by decide +kernel) ?_
        (repeat (first | refine Spl.t rfl ?_ | refine Spl.f rfl ?_))
        refine RegP.of rfl (by decide +kernel) ?_
        (refine IdxP.of (reD N[i]) (by omega) (by simp [hx]) ?_; refine QuietP.of (O.neT 3 rfl rfl rfl rfl rfl eqR_ok eqR_g (eqR N[i].1 a)) ?_; refine Spl.of (fun h2 => ?_) (fun h2 => ?_))
        · have he : ¬ N[i].1 = a := by simpa using h2
          (repeat (first | refine Spl.t rfl ?_ | refine Spl.f rfl ?_))
          refine IdxP.of (reD N[i]) (by omega) (by simp [hx]) ?_
          refine Req.of ⟨by simp, (show out.length + 1 ≤ 1000000000 by omega)⟩ ?_
          have hr : rstep a e (out, true) N[i] = (out ++ [N[i]], true) := by simp [rstep, he]
          exact ⟨(i + 1, (out ++ [N[i]], true)), ⟨by simp only; omega, by rw [hnx, hr]⟩, by simp only; omega, ⟨some_iv (wrap_id _ (by omega) (by omega)), rfl, some_arr (by simp; try rfl), trivial⟩, (by repeat' (first | exact trivial | exact rfl | refine And.intro ?_ ?_)), ⟨some_ear (by simp; try rfl), trivial⟩, (by repeat' (first | exact trivial | exact rfl | refine And.intro ?_ ?_))⟩
        · have he : N[i].1 = a := by simpa using h2
          (repeat (first | refine Spl.t rfl ?_ | refine Spl.f rfl ?_))
          have hr : rstep a e (out, true) N[i] = (out, true) := by simp [rstep, he]
          exact ⟨(i + 1, (out, true)), ⟨by simp only; omega, by rw [hnx, hr]⟩, by simp only; omega, ⟨some_iv (wrap_id _ (by omega) (by omega)), rfl, some_arr (by simp; try rfl), trivial⟩, (by repeat' (first | exact trivial | exact rfl | refine And.intro ?_ ?_)), ⟨some_ear (by simp; try rfl), trivial⟩, (by repeat' (first | exact trivial | exact rfl | refine And.intro ?_ ?_))⟩
      | false =>
        (repeat (first | refine Spl.t rfl ?_ | refine Spl.f rfl ?_))
        refine RegP.of rfl (by decide +kernel) ?_
        (repeat (first | refine Spl.t rfl ?_ | refine Spl.f rfl ?_))
        refine IdxP.of (reD N[i]) (by omega) (by simp [hx]) ?_
        (repeat (first | refine Spl.t rfl ?_ | refine Spl.f rfl ?_))
        refine QuietP.of (QJ.call (RLess_c N[i].1 a) (fun _ _ => rfl) rfl rfl) ?_
        (repeat (first | refine Spl.t rfl ?_ | refine Spl.f rfl ?_))
        refine Spl.of (fun h3 => ?_) (fun h3 => ?_)
        · have hl : lessI N[i].1 a = false := by simpa using h3
          (repeat (first | refine Spl.t rfl ?_ | refine Spl.f rfl ?_))
          refine Req.of ⟨by simp, (show out.length + 1 ≤ 1000000000 by omega)⟩ ?_
          refine RegP.of rfl (by decide +kernel) ?_
          (refine IdxP.of (reD N[i]) (by omega) (by simp [hx]) ?_; refine QuietP.of (O.neT 3 rfl rfl rfl rfl rfl eqR_ok eqR_g (eqR N[i].1 a)) ?_; refine Spl.of (fun h2 => ?_) (fun h2 => ?_))
          · have he : ¬ N[i].1 = a := by simpa using h2
            (repeat (first | refine Spl.t rfl ?_ | refine Spl.f rfl ?_))
            refine IdxP.of (reD N[i]) (by omega) (by simp [hx]) ?_
            refine Req.of ⟨by simp, (show out.length + 1 + 1 ≤ 1000000000 by omega)⟩ ?_
            have hr : rstep a e (out, false) N[i] = (out ++ [(a, e)] ++ [N[i]], true) := by simp [rstep, he, hl]
            exact ⟨(i + 1, (out ++ [(a, e)] ++ [N[i]], true)), ⟨by simp only; omega, by rw [hnx, hr]⟩, by simp only; omega, ⟨some_iv (wrap_id _ (by omega) (by omega)), rfl, some_arr (by simp; try rfl), trivial⟩, (by repeat' (first | exact trivial | exact rfl | refine And.intro ?_ ?_)), ⟨some_ear (by simp; try rfl), trivial⟩, (by repeat' (first | exact trivial | exact rfl | refine And.intro ?_ ?_))⟩
          · have he : N[i].1 = a := by simpa using h2
            (repeat (first | refine Spl.t rfl ?_ | refine Spl.f rfl ?_))
            have hr : rstep a e (out, false) N[i] = (out ++ [(a, e)], true) := by simp only [rstep, hl]; simp [he]
            exact ⟨(i + 1, (out ++ [(a, e)], true)), ⟨by simp only; omega, by rw [hnx, hr]⟩, by simp only; omega, ⟨some_iv (wrap_id _ (by omega) (by omega)), rfl, some_arr (by simp; try rfl), trivial⟩, (by repeat' (first | exact trivial | exact rfl | refine And.intro ?_ ?_)), ⟨some_ear (by simp; try rfl), trivial⟩, (by repeat' (first | exact trivial | exact rfl | refine And.intro ?_ ?_))⟩
        · have hl : lessI N[i].1 a = true := by simpa using h3
          (repeat (first | refine Spl.t rfl ?_ | refine Spl.f rfl ?_))
          refine RegP.of rfl (by decide +kernel) ?_
          (refine IdxP.of (reD N[i]) (by omega) (by simp [hx]) ?_; refine QuietP.of (O.neT 3 rfl rfl rfl rfl rfl eqR_ok eqR_g (eqR N[i].1 a)) ?_; refine Spl.of (fun h2 => ?_) (fun h2 => ?_))
          · have he : ¬ N[i].1 = a := by simpa using h2
            (repeat (first | refine Spl.t rfl ?_ | refine Spl.f rfl ?_))
            refine IdxP.of (reD N[i]) (by omega) (by simp [hx]) ?_
            refine Req.of ⟨by simp, (show out.length + 1 ≤ 1000000000 by omega)⟩ ?_
            have hr : rstep a e (out, false) N[i] = (out ++ [N[i]], false) := by simp [rstep, he, hl]
            exact ⟨(i + 1, (out ++ [N[i]], false)), ⟨by simp only; omega, by rw [hnx, hr]⟩, by simp only; omega, ⟨some_iv (wrap_id _ (by omega) (by omega)), rfl, some_arr (by simp; try rfl), trivial⟩, (by repeat' (first | exact trivial | exact rfl | refine And.intro ?_ ?_)), ⟨some_ear (by simp; try rfl), trivial⟩, (by repeat' (first | exact trivial | exact rfl | refine And.intro ?_ ?_))⟩
          · have he : N[i].1 = a := by simpa using h2
            (repeat (first | refine Spl.t rfl ?_ | refine Spl.f rfl ?_))
            exact absurd hl (by rw [he]; exact less_irr a)
    · have he : i = N.length := by have := of_decide_eq_false h1; simp at this; omega
      rw [he, List.take_length] at hst
      cases dn with
      | true =>
        have hr : refPut a e N = out := by rw [refPut, ← hst]; rfl
        rw [hr]
        (repeat (first | refine Spl.t rfl ?_ | refine Spl.f rfl ?_))
        exact rput_fin (L := out) rfl rfl (by omega) rfl
      | false =>
        have hr : refPut a e N = out ++ [(a, e)] := by rw [refPut, ← hst]; rfl
        rw [hr]
        (repeat (first | refine Spl.t rfl ?_ | refine Spl.f rfl ?_))
        refine Req.of ⟨by simp, (show out.length + 1 ≤ 1000000000 by omega)⟩ ?_
        refine rput_fin (L := out ++ [(a, e)]) ?_ ?_ (by simp; omega) rfl
        · exact some_ear (by simp; rfl)
        · simp; rfl
end Go.Proofs.E
