/- Laws that the claim's text stands on: The document's answer for maps of ids; Maps of ids: the law's example; is a map the document's; The law PmapPlays; Cells that hold rows; The law PmapStays. -/
import Derived.Test.YthfemmcodfajaaaDoorM1
import Derived.Test.YthfemmcodfajaaaDoorM2
import Derived.Test.YthfemmcodfajaaaDoorM3
import Derived.Test.YthfemmcodfajaaaDoorDShelf
import Derived.Test.YthfemmcodfajaaaDoorM4
set_option linter.unusedVariables false
set_option linter.unusedSimpArgs false
section
open Go Go.Gv
attribute [local irreducible] Go.Gv.WJ Go.Gv.OpJ Go.Gv.QJ Go.Gv.Spl Go.Gv.Req Go.Gv.IdxP Go.Gv.RegP Go.Gv.FinP Go.Gv.QuietP Go.Gv.CellP Go.Gv.CellsP Go.Gv.ArrP Go.Gv.ArrsP Go.Gv.DropP Go.Gv.ByteP Go.Gv.StoreP
set_option maxRecDepth 100000
namespace Go.Proofs.E
abbrev reD (x : IE) : List D := [.v (.int .i64 x.1.c), .v (.int .i64 x.1.s), .v (.int .i64 x.2.a.c), .v (.int .i64 x.2.a.s), .v (.int .i32 x.2.ch), .v (.bool x.2.dead)]
abbrev reV (x : IE) : AV := .agg [iv x.1.c, iv x.1.s, iv x.2.a.c, iv x.2.a.s, cv' x.2.ch, bv x.2.dead]
theorem Of4_c (a : ID) (e : EN) : Cv 30 [idv a, env e] (reV (a, e)) := by
  refine Ct.of_vc Tryd.f30 Tryd.func30 rfl rfl fun w H B g0 => ?_
  refine RegP.of rfl (by decide +kernel) ?_
  refine QuietP.of (QJ.call (Of_c a) (fun _ _ => rfl) rfl rfl) ?_
  refine QuietP.of (QJ.call (Of_c e.a) (fun _ _ => rfl) rfl rfl) ?_
  exact FinP.open rfl rfl
theorem eqR (a b : ID) : eqT Tryd.prog 3 26 [.int .i64 a.c, .int .i64 a.s] [.int .i64 b.c, .int .i64 b.s] = some (decide (a = b)) := by
  show some (decide (a.c = b.c) && (decide (a.s = b.s) && true)) = _
  cases a; cases b; simp
theorem eqR_ok : eqOk Tryd.prog 3 26 = true := by kernel_rfl
theorem eqR_g : Tryd.prog.eqGuardType Tryd.prog.depth 26 = false := by kernel_rfl
def getIx (a : ID) : List IE → Int
  | [] => -1
  | y :: l => if y.1 = a then 0 else if getIx a l < 0 then -1 else getIx a l + 1
theorem getIx_drop (a : ID) (N : List IE) : ∀ i, i ≤ N.length → (∀ j y, j < i → N[j]? = some y → y.1 ≠ a) → getIx a N = if getIx a (N.drop i) < 0 then -1 else getIx a (N.drop i) + i
  | 0, _, _ => by
    rw [List.drop_zero]
    split
    · next h =>
      cases N with
      | nil => rfl
      | cons y l =>
        rw [getIx] at h ⊢
        split
        · next h2 => rw [if_pos h2] at h; omega
        · next h2 =>
          rw [if_neg h2] at h
          split
          · rfl
          · next h3 => rw [if_neg h3] at h; omega
    · simp
  | i + 1, hi, h => by
    have ih := getIx_drop a N i (by omega) fun j y hj => h j y (by omega)
    have hy := h i N[i] (by omega) (by simp)
    rw [ih, List.drop_eq_getElem_cons (by omega : i < N.length), getIx, if_neg hy]
    split
    · next h2 => simp
    · next h2 =>
      rw [if_neg (by omega)]
      omega
theorem RGet_c (N : List IE) (a : ID) (hN : N.length ≤ 1000000) : Cv 33 [.d (.sl 6 (N.map reD)), idv a] (iv (getIx a N)) := by
  refine Ct.of_vc Tryd.f33 Tryd.func33 rfl rfl fun w H B g0 => ?_
  refine WJ.loopK (V := Nat) (fun i => [(5, iv i)]) (fun _ => []) [] (fun i => N.length - i) (fun i => i ≤ N.length ∧ ∀ (j : Nat) (y : IE), j < i → N[j]? = some y → y.1 ≠ a) 0 ⟨by omega, fun j y h => by omega⟩ (by repeat' (first | exact trivial | exact rfl | refine And.intro ?_ ?_)) (by repeat' (first | exact trivial | exact rfl | refine And.intro ?_ ?_)) ?_
  intro i ⟨hi, hne⟩
  refine Spl.of (fun h1 => ?_) (fun h1 => ?_)
  · have hlt : i < N.length := by have := of_decide_eq_true h1; simp at this; omega
    have hx : N[i]? = some N[i] := by simp
    (repeat (first | refine Spl.t rfl ?_ | refine Spl.f rfl ?_))
    refine RegP.of rfl (by decide +kernel) ?_
    refine IdxP.of (reD N[i]) (by omega) (by simp [hx]) ?_
    refine QuietP.of (O.eqT 3 rfl rfl rfl rfl rfl eqR_ok eqR_g (eqR N[i].1 a)) ?_
    refine Spl.of (fun h2 => ?_) (fun h2 => ?_)
    · have he : N[i].1 = a := of_decide_eq_true h2
      (repeat (first | refine Spl.t rfl ?_ | refine Spl.f rfl ?_))
      refine FinP.open rfl (congrArg iv ?_)
      rw [getIx_drop a N i (by omega) hne, List.drop_eq_getElem_cons hlt, getIx, if_pos he]; simp
    · have he : ¬ N[i].1 = a := of_decide_eq_false h2
      (repeat (first | refine Spl.t rfl ?_ | refine Spl.f rfl ?_))
      exact ⟨i + 1, ⟨by omega, fun j y hj hy => by
        by_cases h : j = i
        · subst h; rw [hx] at hy; cases hy; exact he
        · exact hne j y (by omega) hy⟩, by omega, ⟨some_iv (wrap_id _ (by omega) (by omega)), trivial⟩, (by repeat' (first | exact trivial | exact rfl | refine And.intro ?_ ?_)), (by repeat' (first | exact trivial | exact rfl | refine And.intro ?_ ?_)), (by repeat' (first | exact trivial | exact rfl | refine And.intro ?_ ?_))⟩
  · have he : i = N.length := by have := of_decide_eq_false h1; simp at this; omega
    (repeat (first | refine Spl.t rfl ?_ | refine Spl.f rfl ?_))
    refine FinP.open rfl (congrArg iv ?_)
    rw [getIx_drop a N i (by omega) hne, he, List.drop_length]; rfl
def rstep (a : ID) (e : EN) (st : List IE × Bool) (y : IE) : List IE × Bool :=
  match !st.2 && !lessI y.1 a with
  | true => (if y.1 = a then st.1 ++ [(a, e)] else st.1 ++ [(a, e)] ++ [y], true)
  | false => (if y.1 = a then st.1 else st.1 ++ [y], st.2)
def rfold (a : ID) (e : EN) (N : List IE) : List IE × Bool := N.foldl (rstep a e) ([], false)
def refPut (a : ID) (e : EN) (N : List IE) : List IE := if (rfold a e N).2 = true then (rfold a e N).1 else (rfold a e N).1 ++ [(a, e)]
theorem rfold_snoc (a : ID) (e : EN) (N : List IE) (y : IE) : rfold a e (N ++ [y]) = rstep a e (rfold a e N) y := by simp [rfold]
theorem rstep_len (a : ID) (e : EN) (st : List IE × Bool) (y : IE) : (rstep a e st y).1.length ≤ st.1.length + 2 := by
  unfold rstep
  split
  · dsimp only; split <;> simp
  · dsimp only; split <;> simp
theorem rfold_len (a : ID) (e : EN) (N : List IE) : ∀ i, (rfold a e (N.take i)).1.length ≤ 2 * i
  | 0 => by simp [rfold]
  | i + 1 => by
    by_cases h : i < N.length
    · rw [take_snoc (x := N[i]) (by simp [h]), rfold_snoc]
      have := rstep_len a e (rfold a e (N.take i)) N[i]
      have := rfold_len a e N i
      omega
    · have := rfold_len a e N i
      rw [List.take_of_length_le (by omega)]
      rw [List.take_of_length_le (by omega)] at this
      omega
abbrev putT (a : ID) (i : Nat) (st : List IE × Bool) : T := [(8, iv i), (7, bv st.2), (6, .arr 6 6 st.1.length)]
theorem rput_fin {X : Cx} {σ : Sg} {Q : AV → Sg → Prop} {L : List IE} {n : Nat} {b : Bool} (hi : Gv.look 6 σ = some (.arr 6 (L.map reD))) (hn : n = L.length) (hl : L.length ≤ 10000000) (hq : Q (.tup [.d (.sl 6 (L.map reD)), bv b]) []) : FinP X σ (.tup [.arr 6 6 n, bv b]) Q := by
  subst hn
  refine FinP.pubTup 6 0 hi rfl (by simp) (by omega) (FinP.open rfl ?_)
  rw [List.take_of_length_le (by simp)]; exact hq
theorem RPut_c (N : List IE) (a : ID) (e : EN) (hN : N.length ≤ 1000000) : Cv 29 [.d (.sl 6 (N.map reD)), reV (a, e)]
    (if mayI a = true then .tup [.d (.sl 6 ((refPut a e N).map reD)), bv true] else .tup [.d (.sl 6 (N.map reD)), bv false]) := by
  refine Ct.of_vc Tryd.f29 Tryd.func29 rfl rfl fun w H B g0 => ?_
  refine OpJ.callV (May_c a) (fun _ _ => rfl) rfl rfl rfl ?_
  (repeat (first | refine Spl.t rfl ?_ | refine Spl.f rfl ?_))
  refine Spl.of (fun h => ?_) (fun h => ?_)
  · have hm : ¬ mayI a = true := by simpa using h
    rw [if_neg hm]
    (repeat (first | refine Spl.t rfl ?_ | refine Spl.f rfl ?_))
    exact FinP.open rfl rfl
  · have hm : mayI a = true := by simpa using h
    rw [if_pos hm]
    (repeat (first | refine Spl.t rfl ?_ | refine Spl.f rfl ?_))
    refine WJ.shift (SJ.nilArr 6 6 6 rfl rfl) ?_
    refine WJ.loopK (V := Nat × List IE × Bool) (fun v => putT a v.1 v.2) (fun v => [(6, .arr 6 (v.2.1.map reD))]) [6] (fun v => N.length - v.1) (fun v => v.1 ≤ N.length ∧ v.2 = rfold a e (N.take v.1)) (0, [], false) ⟨by simp, by simp [rfold]⟩ (by repeat' (first | exact trivial | exact rfl | refine And.intro ?_ ?_)) (by repeat' (first | exact trivial | exact rfl | refine And.intro ?_ ?_)) ?_
    rintro ⟨i, out, dn⟩ ⟨hi, hst⟩
    simp only at hi hst
    have hol := rfold_len a e N i
    rw [← hst] at hol
    simp only at hol
    refine Spl.of (fun h1 => ?_) (fun h1 => ?_)
    · have hlt : i < N.length := by have := of_decide_eq_true h1; simp at this; omega
      have hx : N[i]? = some N[i] := by simp
      have hnx : rfold a e (N.take (i + 1)) = rstep a e (out, dn) N[i] := by rw [take_snoc hx, rfold_snoc, ← hst]
      have bi : out.length + 2 ≤ 10000000 := by omega
      cases dn with
      | true =>
        (repeat (first | refine Spl.t rfl ?_ | refine Spl.f rfl ?_))
        refine RegP.of rfl (by decide +kernel) ?_
        (repeat (first | refine Spl.t rfl ?_ | refine Spl.f rfl ?_))
        refine RegP.of rfl (by decide +kernel) ?_
        (refine IdxP.of (reD N[i]) (by omega) (by simp [hx]) ?_; refine QuietP.of (O.neT 3 rfl rfl rfl rfl rfl eqR_ok eqR_g (eqR N[i].1 a)) ?_; refine Spl.of (fun h2 => ?_) (fun h2 => ?_))
        · have he : ¬ N[i].1 = a := by simpa using h2
          (repeat (first | refine Spl.t rfl ?_ | refine Spl.f rfl ?_))
          refine IdxP.of (reD N[i]) (by omega) (by simp [hx]) ?_
          refine Req.of ⟨by simp, (show out.length + 1 ≤ 1000000000 by omega)⟩ ?_
          have hr : rstep a e (out, true) N[i] = (out ++ [N[i]], true) := by simp [rstep, he]
          exact ⟨(i + 1, (out ++ [N[i]], true)), ⟨by simp only; omega, by rw [hnx, hr]⟩, by simp only; omega, ⟨some_iv (wrap_id _ (by omega) (by omega)), rfl, some_arr (by simp; try rfl), trivial⟩, (by repeat' (first | exact trivial | exact rfl | refine And.intro ?_ ?_)), ⟨some_ear (by simp; try rfl), trivial⟩, (by repeat' (first | exact trivial | exact rfl | refine And.intro ?_ ?_))⟩
        · have he : N[i].1 = a := by simpa using h2
          (repeat (first | refine Spl.t rfl ?_ | refine Spl.f rfl ?_))
          have hr : rstep a e (out, true) N[i] = (out, true) := by simp [rstep, he]
          exact ⟨(i + 1, (out, true)), ⟨by simp only; omega, by rw [hnx, hr]⟩, by simp only; omega, ⟨some_iv (wrap_id _ (by omega) (by omega)), rfl, some_arr (by simp; try rfl), trivial⟩, (by repeat' (first | exact trivial | exact rfl | refine And.intro ?_ ?_)), ⟨some_ear (by simp; try rfl), trivial⟩, (by repeat' (first | exact trivial | exact rfl | refine And.intro ?_ ?_))⟩
      | false =>
        (repeat (first | refine Spl.t rfl ?_ | refine Spl.f rfl ?_))
        refine RegP.of rfl (by decide +kernel) ?_
        (repeat (first | refine Spl.t rfl ?_ | refine Spl.f rfl ?_))
        refine IdxP.of (reD N[i]) (by omega) (by simp [hx]) ?_
        (repeat (first | refine Spl.t rfl ?_ | refine Spl.f rfl ?_))
        refine QuietP.of (QJ.call (RLess_c N[i].1 a) (fun _ _ => rfl) rfl rfl) ?_
        (repeat (first | refine Spl.t rfl ?_ | refine Spl.f rfl ?_))
        refine Spl.of (fun h3 => ?_) (fun h3 => ?_)
        · have hl : lessI N[i].1 a = false := by simpa using h3
          (repeat (first | refine Spl.t rfl ?_ | refine Spl.f rfl ?_))
          refine Req.of ⟨by simp, (show out.length + 1 ≤ 1000000000 by omega)⟩ ?_
          refine RegP.of rfl (by decide +kernel) ?_
          (refine IdxP.of (reD N[i]) (by omega) (by simp [hx]) ?_; refine QuietP.of (O.neT 3 rfl rfl rfl rfl rfl eqR_ok eqR_g (eqR N[i].1 a)) ?_; refine Spl.of (fun h2 => ?_) (fun h2 => ?_))
          · have he : ¬ N[i].1 = a := by simpa using h2
            (repeat (first | refine Spl.t rfl ?_ | refine Spl.f rfl ?_))
            refine IdxP.of (reD N[i]) (by omega) (by simp [hx]) ?_
            refine Req.of ⟨by simp, (show out.length + 1 + 1 ≤ 1000000000 by omega)⟩ ?_
            have hr : rstep a e (out, false) N[i] = (out ++ [(a, e)] ++ [N[i]], true) := by simp [rstep, he, hl]
            exact ⟨(i + 1, (out ++ [(a, e)] ++ [N[i]], true)), ⟨by simp only; omega, by rw [hnx, hr]⟩, by simp only; omega, ⟨some_iv (wrap_id _ (by omega) (by omega)), rfl, some_arr (by simp; try rfl), trivial⟩, (by repeat' (first | exact trivial | exact rfl | refine And.intro ?_ ?_)), ⟨some_ear (by simp; try rfl), trivial⟩, (by repeat' (first | exact trivial | exact rfl | refine And.intro ?_ ?_))⟩
          · have he : N[i].1 = a := by simpa using h2
            (repeat (first | refine Spl.t rfl ?_ | refine Spl.f rfl ?_))
            have hr : rstep a e (out, false) N[i] = (out ++ [(a, e)], true) := by simp only [rstep, hl]; simp [he]
            exact ⟨(i + 1, (out ++ [(a, e)], true)), ⟨by simp only; omega, by rw [hnx, hr]⟩, by simp only; omega, ⟨some_iv (wrap_id _ (by omega) (by omega)), rfl, some_arr (by simp; try rfl), trivial⟩, (by repeat' (first | exact trivial | exact rfl | refine And.intro ?_ ?_)), ⟨some_ear (by simp; try rfl), trivial⟩, (by repeat' (first | exact trivial | exact rfl | refine And.intro ?_ ?_))⟩
        · have hl : lessI N[i].1 a = true := by simpa using h3
          (repeat (first | refine Spl.t rfl ?_ | refine Spl.f rfl ?_))
          refine RegP.of rfl (by decide +kernel) ?_
          (refine IdxP.of (reD N[i]) (by omega) (by simp [hx]) ?_; refine QuietP.of (O.neT 3 rfl rfl rfl rfl rfl eqR_ok eqR_g (eqR N[i].1 a)) ?_; refine Spl.of (fun h2 => ?_) (fun h2 => ?_))
          · have he : ¬ N[i].1 = a := by simpa using h2
            (repeat (first | refine Spl.t rfl ?_ | refine Spl.f rfl ?_))
            refine IdxP.of (reD N[i]) (by omega) (by simp [hx]) ?_
            refine Req.of ⟨by simp, (show out.length + 1 ≤ 1000000000 by omega)⟩ ?_
            have hr : rstep a e (out, false) N[i] = (out ++ [N[i]], false) := by simp [rstep, he, hl]
            exact ⟨(i + 1, (out ++ [N[i]], false)), ⟨by simp only; omega, by rw [hnx, hr]⟩, by simp only; omega, ⟨some_iv (wrap_id _ (by omega) (by omega)), rfl, some_arr (by simp; try rfl), trivial⟩, (by repeat' (first | exact trivial | exact rfl | refine And.intro ?_ ?_)), ⟨some_ear (by simp; try rfl), trivial⟩, (by repeat' (first | exact trivial | exact rfl | refine And.intro ?_ ?_))⟩
          · have he : N[i].1 = a := by simpa using h2
            (repeat (first | refine Spl.t rfl ?_ | refine Spl.f rfl ?_))
            exact absurd hl (by rw [he]; exact less_irr a)
    · have he : i = N.length := by have := of_decide_eq_false h1; simp at this; omega
      rw [he, List.take_length] at hst
      cases dn with
      | true =>
        have hr : refPut a e N = out := by rw [refPut, ← hst]; rfl
        rw [hr]
        (repeat (first | refine Spl.t rfl ?_ | refine Spl.f rfl ?_))
        exact rput_fin (L := out) rfl rfl (by omega) rfl
      | false =>
        have hr : refPut a e N = out ++ [(a, e)] := by rw [refPut, ← hst]; rfl
        rw [hr]
        (repeat (first | refine Spl.t rfl ?_ | refine Spl.f rfl ?_))
        refine Req.of ⟨by simp, (show out.length + 1 ≤ 1000000000 by omega)⟩ ?_
        refine rput_fin (L := out ++ [(a, e)]) ?_ ?_ (by simp; omega) rfl
        · exact some_ear (by simp; rfl)
        · simp; rfl
end Go.Proofs.E
end
section
open Go Go.Gv
attribute [local irreducible] Go.Gv.WJ Go.Gv.OpJ Go.Gv.QJ Go.Gv.Spl Go.Gv.Req Go.Gv.IdxP Go.Gv.RegP Go.Gv.FinP Go.Gv.QuietP Go.Gv.CellP Go.Gv.CellsP Go.Gv.ArrP Go.Gv.ArrsP Go.Gv.DropP Go.Gv.ByteP Go.Gv.StoreP
set_option maxRecDepth 100000
namespace Go.Proofs.E
attribute [local irreducible] elems
def nPut (p : PT) (n : Int) (a : ID) : Int := if (getM p a).isSome = true then n else n + 1
theorem isM_put {p : PT} {n : Int} {M : List IE} (h : isM p n M) {a : ID} (ha : mayI a = true) (e : EN) : isM (PT.put 8 (keyI a) e p) (nPut p n a) (insM a e M) := put_is h ha e
theorem PutIs_c {p : PT} {n : Int} {M : List IE} (h : isM p n M) (hl : M.length ≤ 1000000) (a : ID) (e : EN) (ha : mayI a = true) : Cv 28 [mapv p n, idv a, env e] (.tup [mapv (PT.put 8 (keyI a) e p) (nPut p n a), bv true]) := by
  have := PutM_c p n a e h.wf (by rw [h.len]; omega) (by rw [h.len]; omega)
  rw [if_pos ha] at this
  exact this
theorem PutNo_c {p : PT} {n : Int} {M : List IE} (h : isM p n M) (hl : M.length ≤ 1000000) (a : ID) (e : EN) (ha : ¬ mayI a = true) : Cv 28 [mapv p n, idv a, env e] (.tup [mapv p n, bv false]) := by
  have := PutM_c p n a e h.wf (by rw [h.len]; omega) (by rw [h.len]; omega)
  rw [if_neg ha] at this
  exact this
theorem GetIs_c {p : PT} {n : Int} {M : List IE} (h : isM p n M) (a : ID) : Cv 32 [mapv p n, idv a] (getv (alook a M)) := by
  have := Get4_c p n a h.wf
  rw [getM_is h] at this; exact this
theorem LastIs_c {p : PT} {n : Int} {M : List IE} (h : isM p n M) : Cv 50 [mapv p n] (idv (lastI M)) := by
  have := Last4_c p n h.wf
  rw [last_is h] at this; exact this
theorem iterIs {p : PT} {n : Int} {M : List IE} (h : isM p n M) : Iter tab Tryd.prog 54 [.d (mapD p n)] (M.map ieA) := by
  have := all4_iter p n h.wf
  rw [all_is h] at this; exact this
def txt4 (M : List IE) : List UInt8 := M.foldl (fun s x => s ++ (textI x.1 ++ (Utf8.encode x.2.ch).data.toList)) []
theorem txt4_snoc (M : List IE) (x : IE) : txt4 (M ++ [x]) = txt4 M ++ (textI x.1 ++ (Utf8.encode x.2.ch).data.toList) := by simp [txt4]
theorem Awake4_c : Cv 27 [] (bv true) := by
  have h1 := isM_put isM_nil (a := ⟨2, 1⟩) rfl ⟨⟨0, 0⟩, 98, false⟩
  have h2 := isM_put h1 (a := ⟨1, 3⟩) rfl ⟨⟨0, 0⟩, 97, false⟩
  have p1 := PutIs_c isM_nil (by simp) ⟨2, 1⟩ ⟨⟨0, 0⟩, 98, false⟩ rfl
  have p2 := PutIs_c h1 (by simp [insM]) ⟨1, 3⟩ ⟨⟨0, 0⟩, 97, false⟩ rfl
  have it := iterIs h2
  have la := LastIs_c h2
  obtain ⟨M, hM⟩ : ∃ M, M = insM ⟨1, 3⟩ ⟨⟨0, 0⟩, 97, false⟩ (insM ⟨2, 1⟩ ⟨⟨0, 0⟩, 98, false⟩ []) := ⟨_, rfl⟩
  rw [← hM] at it la h2
  generalize PT.put 8 (keyI ⟨2, 1⟩) ⟨⟨0, 0⟩, 98, false⟩ PT.nil = q1 at *
  generalize nPut PT.nil 0 ⟨2, 1⟩ = n1 at *
  generalize PT.put 8 (keyI ⟨1, 3⟩) ⟨⟨0, 0⟩, 97, false⟩ q1 = q2 at *
  generalize nPut q1 n1 ⟨1, 3⟩ = n2 at *
  refine Ct.of_vc Tryd.f27 Tryd.func27 rfl rfl fun w H B g0 => ?_
  refine OpJ.callV p1 (fun _ _ => rfl) rfl rfl rfl ?_
  (repeat (first | refine Spl.t rfl ?_ | refine Spl.f rfl ?_))
  refine OpJ.callV p2 (fun _ _ => rfl) rfl rfl rfl ?_
  (repeat (first | refine Spl.t rfl ?_ | refine Spl.f rfl ?_))
  refine OpJ.callV (All4_c q2 n2) (fun _ _ => rfl) rfl rfl rfl ?_
  (repeat (first | refine Spl.t rfl ?_ | refine Spl.f rfl ?_))
  refine OpJ.callV (All4_c q2 n2) (fun _ _ => rfl) rfl rfl rfl ?_
  (repeat (first | refine Spl.t rfl ?_ | refine Spl.f rfl ?_))
  have ht : (txt4 M).length ≤ 100 := by rw [hM]; decide +kernel
  refine WJ.rangeK ieA M (V := List UInt8) (fun v => [(4, .cells [sv v])]) [4] (fun pre v => v = txt4 pre) (fun _ _ _ => False) [] it rfl rfl (.fn _ _) rfl (fun _ _ => rfl) rfl rfl (fun _ => rfl) (by repeat' (first | exact trivial | exact rfl | refine And.intro ?_ ?_)) rfl ?_ ?_ ?_
  · intro l pre x post v hL hI w0 H0 B0 g1
    intro w0 H0 B0 g1
    have hlen : (txt4 pre).length + (textI x.1 ++ (Utf8.encode x.2.ch).data.toList).length ≤ 100 := by
      rw [hL, txt4, List.foldl_append, List.foldl_cons] at ht
      have hgrow : ∀ (P : List IE) (s : List UInt8), s.length ≤ (P.foldl (fun s x => s ++ (textI x.1 ++ (Utf8.encode x.2.ch).data.toList)) s).length := fun P => by
        induction P with
        | nil => intro s; exact Nat.le_refl _
        | cons y P ih => intro s; exact Nat.le_trans (by simp) (ih _)
      have := Nat.le_trans (hgrow post _) ht
      rw [List.length_append] at this
      exact this
    rw [List.length_append] at hlen
    refine RegP.of rfl (by decide +kernel) ?_
    refine QuietP.of (QJ.call (String_c x.1) (fun _ _ => rfl) rfl rfl) ?_
    refine Req.of (by show (textI x.1).length + (Utf8.encode x.2.ch).data.toList.length ≤ _; omega) ?_
    refine Req.of (by subst hI; show (txt4 pre).length + (textI x.1 ++ (Utf8.encode x.2.ch).data.toList).length ≤ _; rw [List.length_append]; omega) ?_
    exact ⟨txt4 (pre ++ [x]), rfl, ⟨congrArg (fun l => some (Ent.cells [sv l])) (by rw [txt4_snoc, hI]), (by repeat' (first | exact trivial | exact rfl | refine And.intro ?_ ?_))⟩⟩
  · intro v hI
    subst hI
    refine OpJ.callV Awake_c (fun _ _ => rfl) rfl rfl rfl ?_
    (repeat (first | refine Spl.t rfl ?_ | refine Spl.f rfl ?_))
    refine Spl.t (by rw [hM]; decide +kernel) ?_
    (repeat (first | refine Spl.t rfl ?_ | refine Spl.f rfl ?_))
    refine OpJ.callV la (fun _ _ => rfl) rfl rfl rfl ?_
    (repeat (first | refine Spl.t rfl ?_ | refine Spl.f rfl ?_))
    refine OpJ.qu (O.eqT 3 rfl rfl rfl rfl rfl eqI_ok eqI_g (eqI (lastI M) ⟨2, 1⟩)) rfl ?_
    (repeat (first | refine Spl.t rfl ?_ | refine Spl.f rfl ?_))
    exact FinP.open rfl (congrArg bv (by rw [hM]; decide +kernel))
  · intro c p v h
    exact h.elim
theorem eqEN (a b : EN) : eqT Tryd.prog 4 52 [.int .i64 a.a.c, .int .i64 a.a.s, .int .i32 a.ch, .bool a.dead] [.int .i64 b.a.c, .int .i64 b.a.s, .int .i32 b.ch, .bool b.dead] = some (decide (a = b)) := by
  show some ((decide (a.a.c = b.a.c) && (decide (a.a.s = b.a.s) && true)) && (decide (a.ch = b.ch) && ((a.dead == b.dead) && true))) = _
  obtain ⟨⟨a1, a2⟩, a3, a4⟩ := a
  obtain ⟨⟨b1, b2⟩, b3, b4⟩ := b
  simp [Bool.and_assoc, and_assoc]
  cases a4 <;> cases b4 <;> simp
theorem eqRE (x y : IE) : eqT Tryd.prog 4 60 [.int .i64 x.1.c, .int .i64 x.1.s, .int .i64 x.2.a.c, .int .i64 x.2.a.s, .int .i32 x.2.ch, .bool x.2.dead] [.int .i64 y.1.c, .int .i64 y.1.s, .int .i64 y.2.a.c, .int .i64 y.2.a.s, .int .i32 y.2.ch, .bool y.2.dead] = some (decide (x = y)) := by
  show some ((decide (x.1.c = y.1.c) && (decide (x.1.s = y.1.s) && true)) && ((decide (x.2.a.c = y.2.a.c) && (decide (x.2.a.s = y.2.a.s) && true)) && (decide (x.2.ch = y.2.ch) && ((x.2.dead == y.2.dead) && true)))) = _
  obtain ⟨⟨p, q⟩, ⟨a1, a2⟩, a3, a4⟩ := x
  obtain ⟨⟨p', q'⟩, ⟨b1, b2⟩, b3, b4⟩ := y
  simp [Bool.and_assoc, and_assoc]
  cases a4 <;> cases b4 <;> simp
theorem eqEN_ok : eqOk Tryd.prog 4 52 = true := by kernel_rfl
theorem eqEN_g : Tryd.prog.eqGuardType Tryd.prog.depth 52 = false := by kernel_rfl
theorem eqRE_ok : eqOk Tryd.prog 4 60 = true := by kernel_rfl
theorem eqRE_g : Tryd.prog.eqGuardType Tryd.prog.depth 60 = false := by kernel_rfl
theorem alook_mem {M : List IE} (h : upM M) {x : IE} (hx : x ∈ M) : alook x.1 M = some x.2 := by
  induction M with
  | nil => simp at hx
  | cons y l ih =>
    obtain ⟨h1, h2⟩ := List.pairwise_cons.1 h
    rw [alook]
    rcases List.mem_cons.1 hx with rfl | hx
    · rw [if_pos rfl]
    · rw [if_neg (fun e => less_irr y.1 (by have := h1 x hx; rw [e] at this; exact this)), ih h2 hx]
theorem Is4_c {p : PT} {n : Int} {M : List IE} (h : isM p n M) (hl : M.length ≤ 1000000) (N : List IE) (hN : N.length ≤ 1000000) : Cv 34 [mapv p n, .d (.sl 6 (N.map reD))] (bv (decide (M = N))) := by
  have it := iterIs h
  have la := LastIs_c h
  refine Ct.of_vc Tryd.f34 Tryd.func34 rfl rfl fun w H B g0 => ?_
  refine OpJ.callV (All4_c p n) (fun _ _ => rfl) rfl rfl rfl ?_
  (repeat (first | refine Spl.t rfl ?_ | refine Spl.f rfl ?_))
  refine OpJ.callV (All4_c p n) (fun _ _ => rfl) rfl rfl rfl ?_
  (repeat (first | refine Spl.t rfl ?_ | refine Spl.f rfl ?_))
  refine WJ.rangeK ieA M (V := Nat) (fun v => [(5, .cells [iv v]), (4, .cells [bv false])]) [4, 5] (fun pre v => v = pre.length ∧ pre.length ≤ N.length ∧ pre = N.take pre.length) (fun c _ _ => c = .ret ∧ M ≠ N) 0 it rfl rfl (.fn _ _) rfl (fun _ _ => rfl) rfl rfl (fun _ => rfl) (by repeat' (first | exact trivial | exact rfl | refine And.intro ?_ ?_)) ⟨rfl, by simp, by simp⟩ ?_ ?_ ?_
  · intro l pre x post v hL hI w0 H0 B0 g1
    obtain ⟨hv, hpl, hpe⟩ := hI
    intro w0 H0 B0 g1
    have hx : x ∈ M := by rw [hL]; simp
    have hg := GetIs_c h x.1
    rw [alook_mem h.up hx] at hg
    have hlp : pre.length < M.length := by rw [hL]; simp
    refine OpJ.callV hg (fun _ _ => rfl) rfl rfl rfl ?_
    (repeat (first | refine Spl.t rfl ?_ | refine Spl.f rfl ?_))
    refine RegP.of rfl (by decide +kernel) ?_
    refine Spl.of (fun h1 => ?_) (fun h1 => ?_)
    · have hge : N.length ≤ v := by have := of_decide_eq_true h1; simp at this; omega
      (repeat (first | refine Spl.t rfl ?_ | refine Spl.f rfl ?_))
      exact ⟨v, ⟨rfl, fun e => by rw [← e] at hge; omega⟩, (by repeat' (first | exact trivial | exact rfl | refine And.intro ?_ ?_))⟩
    · have hlt : v < N.length := by have := of_decide_eq_false h1; simp at this; omega
      have hy : N[v]? = some N[v] := by simp
      (repeat (first | refine Spl.t rfl ?_ | refine Spl.f rfl ?_))
      refine QuietP.of (QJ.call (Of4_c x.1 x.2) (fun _ _ => rfl) rfl rfl) ?_
      (repeat (first | refine Spl.t rfl ?_ | refine Spl.f rfl ?_))
      refine IdxP.of (reD N[v]) (by omega) (by simp [hy]) ?_
      (repeat (first | refine Spl.t rfl ?_ | refine Spl.f rfl ?_))
      refine QuietP.of (O.neT 4 rfl rfl rfl rfl rfl eqRE_ok eqRE_g (eqRE x N[v])) ?_
      (repeat (first | refine Spl.t rfl ?_ | refine Spl.f rfl ?_))
      refine Spl.of (fun h2 => ?_) (fun h2 => ?_)
      · have hne : x ≠ N[v] := by simpa using h2
        (repeat (first | refine Spl.t rfl ?_ | refine Spl.f rfl ?_))
        exact ⟨v, ⟨rfl, fun e => hne (by
          have h3 : M[v]? = some x := by rw [hL, hv]; simp
          rw [e, hy] at h3; cases h3; rfl)⟩, (by repeat' (first | exact trivial | exact rfl | refine And.intro ?_ ?_))⟩
      · have he : x = N[v] := by simpa using h2
        (repeat (first | refine Spl.t rfl ?_ | refine Spl.f rfl ?_))
        refine QuietP.of (O.neT 4 rfl rfl rfl rfl rfl eqEN_ok eqEN_g (eqEN x.2 x.2)) ?_
        (repeat (first | refine Spl.t rfl ?_ | refine Spl.f rfl ?_))
        refine Spl.f (by simp) ?_
        (repeat (first | refine Spl.t rfl ?_ | refine Spl.f rfl ?_))
        exact ⟨v + 1, ⟨by simp [hv], by simp; omega, by
          rw [List.length_append, List.length_singleton, take_snoc (x := x) (by rw [← hv, hy, ← he]), ← hpe]⟩, ⟨congrArg (fun z : Int => some (Ent.cells [iv z])) (by rw [wrap_id _ (by omega) (by omega)]; rfl), (by repeat' (first | exact trivial | exact rfl | refine And.intro ?_ ?_))⟩⟩
  · intro v hI
    obtain ⟨hv, hpl, hpe⟩ := hI
    have hdec : decide (M = N) = decide ((v : Int) = ((N.map reD).length : Int)) := by
      by_cases e : M = N
      · rw [decide_eq_true e, decide_eq_true]; rw [hv, e]; simp
      · rw [decide_eq_false e, decide_eq_false]
        intro h2
        apply e
        rw [hpe, List.take_of_length_le]
        simp at h2; omega
    have hlast : ∀ i : ID, (M = N → i = lastI N) → ∀ b : Bool, (decide ((v : Int) = ((N.map reD).length : Int)) = true → b = decide (lastI M = i)) → (decide ((v : Int) = ((N.map reD).length : Int)) && b) = decide (M = N) := fun i hi b hb => by
      rw [hdec]
      cases hd : decide ((v : Int) = ((N.map reD).length : Int)) with
      | false => rfl
      | true =>
        have e : M = N := of_decide_eq_true (hdec.trans hd)
        rw [hb hd, hi e, e]; simp
    refine Spl.of (fun h1 => ?_) (fun h1 => ?_)
    · have hlt : 0 < N.length := by have := of_decide_eq_true h1; simp at this; exact this
      have hy : N[N.length - 1]? = some N[N.length - 1] := by simp
      have hw : IntKind.i64.wrap (((N.map reD).length : Int) - 1) = ((N.length - 1 : Nat) : Int) := by
        rw [List.length_map, wrap_id _ (by omega) (by omega)]; omega
      have hlN : M = N → N[N.length - 1].1 = lastI N := fun _ => by
        unfold lastI
        rw [List.getLast?_eq_getElem?, hy]
      (repeat (first | refine Spl.t rfl ?_ | refine Spl.f rfl ?_))
      refine IdxP.of (reD N[N.length - 1]) (by rw [hw]; omega) (by rw [hw]; simp [hy]) ?_
      (repeat (first | refine Spl.t rfl ?_ | refine Spl.f rfl ?_))
      refine RegP.of rfl (by decide +kernel) ?_
      refine Spl.of (fun h2 => ?_) (fun h2 => ?_)
      · (repeat (first | refine Spl.t rfl ?_ | refine Spl.f rfl ?_))
        refine QuietP.of (QJ.call (Len4_c p.d n) (fun _ _ => rfl) rfl rfl) ?_
        (repeat (first | refine Spl.t rfl ?_ | refine Spl.f rfl ?_))
        refine Spl.t (by rw [h.len, hv]; simp) ?_
        (repeat (first | refine Spl.t rfl ?_ | refine Spl.f rfl ?_))
        refine QuietP.of (QJ.call la (fun _ _ => rfl) rfl rfl) ?_
        (repeat (first | refine Spl.t rfl ?_ | refine Spl.f rfl ?_))
        refine QuietP.of (O.eqT 3 rfl rfl rfl rfl rfl eqI_ok eqI_g (eqI (lastI M) N[N.length - 1].1)) ?_
        (repeat (first | refine Spl.t rfl ?_ | refine Spl.f rfl ?_))
        refine FinP.open rfl (congrArg bv ?_)
        rw [← hlast _ hlN _ fun _ => rfl, h2, Bool.true_and]
      · (repeat (first | refine Spl.t rfl ?_ | refine Spl.f rfl ?_))
        refine FinP.open rfl (congrArg bv ?_)
        rw [hdec, h2]
    · have hn0 : N = [] := by
        have := of_decide_eq_false h1; simp at this; exact this
      subst hn0
      have hm0 : M = [] := by rw [hpe]; simp
      subst hm0
      (repeat (first | refine Spl.t rfl ?_ | refine Spl.f rfl ?_))
      refine RegP.of rfl (by decide +kernel) ?_
      refine Spl.t (by rw [hv]; rfl) ?_
      (repeat (first | refine Spl.t rfl ?_ | refine Spl.f rfl ?_))
      refine QuietP.of (QJ.call (Len4_c p.d n) (fun _ _ => rfl) rfl rfl) ?_
      (repeat (first | refine Spl.t rfl ?_ | refine Spl.f rfl ?_))
      refine Spl.t (by rw [h.len, hv]; simp) ?_
      (repeat (first | refine Spl.t rfl ?_ | refine Spl.f rfl ?_))
      refine QuietP.of (QJ.call la (fun _ _ => rfl) rfl rfl) ?_
      (repeat (first | refine Spl.t rfl ?_ | refine Spl.f rfl ?_))
      refine QuietP.of (O.eqT 3 rfl rfl rfl rfl rfl eqI_ok eqI_g (eqI (lastI []) ⟨0, 0⟩)) ?_
      (repeat (first | refine Spl.t rfl ?_ | refine Spl.f rfl ?_))
      exact FinP.open rfl rfl
  · intro c p v hI
    obtain ⟨rfl, hne⟩ := hI
    rw [decide_eq_false hne]
    exact FinP.open rfl rfl
end Go.Proofs.E
end
section
open Go Go.Gv
attribute [local irreducible] Go.Gv.WJ Go.Gv.OpJ Go.Gv.QJ Go.Gv.Spl Go.Gv.Req Go.Gv.IdxP Go.Gv.RegP Go.Gv.FinP Go.Gv.QuietP Go.Gv.CellP Go.Gv.CellsP Go.Gv.ArrP Go.Gv.ArrsP Go.Gv.DropP Go.Gv.ByteP Go.Gv.StoreP
set_option maxRecDepth 100000
namespace Go.Proofs.E
attribute [local irreducible] elems
theorem getIx_none {a : ID} : ∀ {N : List IE}, alook a N = none → getIx a N = -1
  | [], _ => rfl
  | y :: l, h => by
    rw [alook] at h
    split at h
    · cases h
    · next hn => rw [getIx, if_neg (fun e => hn e.symm), getIx_none h]; rfl
theorem getIx_some {a : ID} {e : EN} : ∀ {N : List IE}, alook a N = some e → 0 ≤ getIx a N ∧ N[(getIx a N).toNat]? = some (a, e)
  | [], h => by cases h
  | y :: l, h => by
    rw [alook] at h
    split at h
    · next hy => cases h; rw [getIx, if_pos hy.symm]; exact ⟨by decide, by cases y; simp_all⟩
    · next hn =>
      obtain ⟨h1, h2⟩ := getIx_some h
      rw [getIx, if_neg (fun e => hn e.symm), if_neg (by omega)]
      refine ⟨by omega, ?_⟩
      rw [show (getIx a l + 1).toNat = (getIx a l).toNat + 1 by omega]
      simpa using h2
theorem rfold_done {a : ID} {e : EN} : ∀ (N out : List IE), (∀ y, y ∈ N → y.1 ≠ a) → N.foldl (rstep a e) (out, true) = (out ++ N, true)
  | [], out, _ => by simp
  | y :: l, out, h => by
    have : rstep a e (out, true) y = (out ++ [y], true) := by simp [rstep, h y (by simp)]
    rw [List.foldl_cons, this, rfold_done l _ fun z hz => h z (List.mem_cons_of_mem _ hz), List.append_assoc]; rfl
theorem rfold_ins {a : ID} {e : EN} : ∀ (N out : List IE), upM N → (if (N.foldl (rstep a e) (out, false)).2 = true then (N.foldl (rstep a e) (out, false)).1 else (N.foldl (rstep a e) (out, false)).1 ++ [(a, e)]) = out ++ insM a e N
  | [], out, _ => by simp [insM]
  | y :: l, out, h => by
    obtain ⟨h1, h2⟩ := List.pairwise_cons.1 h
    rw [List.foldl_cons, insM]
    by_cases hl : lessI y.1 a = true
    · have hne : ¬ a = y.1 := fun e => less_irr a (by rw [← e] at hl; exact hl)
      have hnl : ¬ lessI a y.1 = true := fun x => less_irr a (less_tr x hl)
      have : rstep a e (out, false) y = (out ++ [y], false) := by
        have hne' : ¬ y.1 = a := fun h => hne h.symm
        simp [rstep, hl, hne']
      rw [this, rfold_ins l _ h2, if_neg hnl, if_neg hne, List.append_assoc]; rfl
    · by_cases he : a = y.1
      · have hd : ∀ z, z ∈ l → z.1 ≠ a := fun z hz e => less_irr a (by have := h1 z hz; rw [e, ← he] at this; exact this)
        have : rstep a e (out, false) y = (out ++ [(a, e)], true) := by
          have h0 : lessI y.1 a = false := by simpa using hl
          simp only [rstep, h0]; simp [he]
        rw [this, rfold_done l _ hd, if_pos rfl, if_neg (by rw [he]; exact less_irr _), if_pos he, List.append_assoc]; rfl
      · have hl' := less_tot hl (fun e => he e.symm)
        have hd : ∀ z, z ∈ l → z.1 ≠ a := fun z hz e => less_irr a (by have := less_tr hl' (h1 z hz); rw [e] at this; exact this)
        have : rstep a e (out, false) y = (out ++ [(a, e)] ++ [y], true) := by
          have h0 : lessI y.1 a = false := by simpa using hl
          have hne' : ¬ y.1 = a := fun h => he h.symm
          simp only [rstep, h0]; simp [hne']
        rw [this, rfold_done l _ hd, if_pos rfl, if_pos hl']; simp
theorem refPut_ins {a : ID} {e : EN} {N : List IE} (h : upM N) : refPut a e N = insM a e N := by
  have := rfold_ins (e := e) (a := a) N [] h
  rw [List.nil_append] at this
  exact this
theorem RPutIs_c (N : List IE) (h : upM N) (a : ID) (e : EN) (hN : N.length ≤ 1000000) (hm : mayI a = true) : Cv 29 [.d (.sl 6 (N.map reD)), reV (a, e)] (.tup [.d (.sl 6 ((insM a e N).map reD)), bv true]) := by
  have := RPut_c N a e hN
  rw [if_pos hm, refPut_ins h] at this
  exact this
theorem RPutNo_c (N : List IE) (a : ID) (e : EN) (hN : N.length ≤ 1000000) (hm : ¬ mayI a = true) : Cv 29 [.d (.sl 6 (N.map reD)), reV (a, e)] (.tup [.d (.sl 6 (N.map reD)), bv false]) := by
  have := RPut_c N a e hN
  rw [if_neg hm] at this
  exact this
theorem len_ins_le {a : ID} {e : EN} {M : List IE} (h : upM M) : (insM a e M).length ≤ M.length + 1 := by
  rw [len_insM h]; split <;> omega
theorem PmapPlays_c (l : List IE) (a : ID) : Cv 5 [.d (.sl 6 (l.map reD)), idv a] (bv true) := by
  refine Ct.of_vc Tryd.f5 Tryd.func5 rfl rfl fun w H B g0 => ?_
  refine Spl.of (fun h => ?_) (fun h => ?_)
  · (repeat (first | refine Spl.t rfl ?_ | refine Spl.f rfl ?_))
    refine OpJ.callV Awake4_c (fun _ _ => rfl) rfl rfl rfl ?_
    exact FinP.open rfl rfl
  · have hlen : l.length ≤ 100 := by have := of_decide_eq_false h; simp at this; omega
    (repeat (first | refine Spl.t rfl ?_ | refine Spl.f rfl ?_))
    refine WJ.shift (SJ.nilD 6 6 rfl) ?_
    refine WJ.loopK (V := Nat × PT × Int × List IE) (fun v => [(22, iv v.1), (6, .d (.sl 6 (v.2.2.2.map reD)))]) (fun v => [(5, .cells [.d v.2.1.d, iv v.2.2.1])]) [5] (fun v => l.length - v.1) (fun v => v.1 ≤ l.length ∧ v.2.2.2.length ≤ v.1 ∧ isM v.2.1 v.2.2.1 v.2.2.2) (0, .nil, 0, []) ⟨by simp, by simp, isM_nil⟩ (by repeat' (first | exact trivial | exact rfl | refine And.intro ?_ ?_)) (by repeat' (first | exact trivial | exact rfl | refine And.intro ?_ ?_)) ?_
    rintro ⟨i, p, n, M⟩ ⟨hi, hml, hM⟩
    simp only at hi hml hM
    refine Spl.of (fun h1 => ?_) (fun h1 => ?_)
    · have hlt : i < l.length := by have := of_decide_eq_true h1; simp at this; omega
      have hx : l[i]? = some l[i] := by simp
      generalize l[i] = x at hx
      (repeat (first | refine Spl.t rfl ?_ | refine Spl.f rfl ?_))
      refine IdxP.of (reD x) (by omega) (by simp [hx]) ?_
      by_cases hm : mayI x.1 = true
      · have hM2 := isM_put hM hm x.2
        have hl2 := len_ins_le (a := x.1) (e := x.2) hM.up
        (repeat (first | refine Spl.t rfl ?_ | refine Spl.f rfl ?_))
        refine OpJ.callV (PutIs_c hM (by omega) x.1 x.2 hm) (fun _ _ => rfl) rfl rfl rfl ?_
        (repeat (first | refine Spl.t rfl ?_ | refine Spl.f rfl ?_))
        refine OpJ.callV (Of4_c x.1 x.2) (fun _ _ => rfl) rfl rfl rfl ?_
        (repeat (first | refine Spl.t rfl ?_ | refine Spl.f rfl ?_))
        refine OpJ.callV (RPutIs_c M hM.up x.1 x.2 (by omega) hm) (fun _ _ => rfl) rfl rfl rfl ?_
        (repeat (first | refine Spl.t rfl ?_ | refine Spl.f rfl ?_))
        refine OpJ.callV (Len4_c _ _) (fun _ _ => rfl) rfl rfl rfl ?_
        (repeat (first | refine Spl.t rfl ?_ | refine Spl.f rfl ?_))
        refine Spl.f (by rw [hM2.len]; simp) ?_
        (repeat (first | refine Spl.t rfl ?_ | refine Spl.f rfl ?_))
        exact ⟨(i + 1, _, _, insM x.1 x.2 M), ⟨by simp only; omega, by simp only; omega, hM2⟩, by simp only; omega, ⟨some_iv (wrap_id _ (by omega) (by omega)), rfl, trivial⟩, (by repeat' (first | exact trivial | exact rfl | refine And.intro ?_ ?_)), ⟨rfl, trivial⟩, (by repeat' (first | exact trivial | exact rfl | refine And.intro ?_ ?_))⟩
      · (repeat (first | refine Spl.t rfl ?_ | refine Spl.f rfl ?_))
        refine OpJ.callV (PutNo_c hM (by omega) x.1 x.2 hm) (fun _ _ => rfl) rfl rfl rfl ?_
        (repeat (first | refine Spl.t rfl ?_ | refine Spl.f rfl ?_))
        refine OpJ.callV (Of4_c x.1 x.2) (fun _ _ => rfl) rfl rfl rfl ?_
        (repeat (first | refine Spl.t rfl ?_ | refine Spl.f rfl ?_))
        refine OpJ.callV (RPutNo_c M x.1 x.2 (by omega) hm) (fun _ _ => rfl) rfl rfl rfl ?_
        (repeat (first | refine Spl.t rfl ?_ | refine Spl.f rfl ?_))
        refine OpJ.callV (Len4_c _ _) (fun _ _ => rfl) rfl rfl rfl ?_
        (repeat (first | refine Spl.t rfl ?_ | refine Spl.f rfl ?_))
        refine Spl.f (by rw [hM.len]; simp) ?_
        (repeat (first | refine Spl.t rfl ?_ | refine Spl.f rfl ?_))
        exact ⟨(i + 1, p, n, M), ⟨by simp only; omega, by simp only; omega, hM⟩, by simp only; omega, ⟨some_iv (wrap_id _ (by omega) (by omega)), rfl, trivial⟩, (by repeat' (first | exact trivial | exact rfl | refine And.intro ?_ ?_)), ⟨rfl, trivial⟩, (by repeat' (first | exact trivial | exact rfl | refine And.intro ?_ ?_))⟩
    · have hg := GetIs_c hM a
      have hr := RGet_c M a (by omega)
      have his := Is4_c hM (by omega) M (by omega)
      rw [decide_eq_true rfl] at his
      cases ha : alook a M with
      | none =>
        rw [ha] at hg
        rw [getIx_none ha] at hr
        (repeat (first | refine Spl.t rfl ?_ | refine Spl.f rfl ?_))
        refine OpJ.callV hg (fun _ _ => rfl) rfl rfl rfl ?_
        (repeat (first | refine Spl.t rfl ?_ | refine Spl.f rfl ?_))
        refine OpJ.callV (Of_c a) (fun _ _ => rfl) rfl rfl rfl ?_
        (repeat (first | refine Spl.t rfl ?_ | refine Spl.f rfl ?_))
        refine OpJ.callV hr (fun _ _ => rfl) rfl rfl rfl ?_
        (repeat (first | refine Spl.t rfl ?_ | refine Spl.f rfl ?_))
        refine RegP.of rfl (by decide +kernel) ?_
        refine QuietP.of (QJ.call Awake4_c (fun _ _ => rfl) rfl rfl) ?_
        (repeat (first | refine Spl.t rfl ?_ | refine Spl.f rfl ?_))
        refine QuietP.of (QJ.call his (fun _ _ => rfl) rfl rfl) ?_
        (repeat (first | refine Spl.t rfl ?_ | refine Spl.f rfl ?_))
        refine QuietP.of (O.eqT 4 rfl rfl rfl rfl rfl eqEN_ok eqEN_g (eqEN EN.zero EN.zero)) ?_
        (repeat (first | refine Spl.t rfl ?_ | refine Spl.f rfl ?_))
        exact FinP.open rfl rfl
      | some e =>
        obtain ⟨g1, g2⟩ := getIx_some ha
        rw [ha] at hg
        (repeat (first | refine Spl.t rfl ?_ | refine Spl.f rfl ?_))
        refine OpJ.callV hg (fun _ _ => rfl) rfl rfl rfl ?_
        (repeat (first | refine Spl.t rfl ?_ | refine Spl.f rfl ?_))
        refine OpJ.callV (Of_c a) (fun _ _ => rfl) rfl rfl rfl ?_
        (repeat (first | refine Spl.t rfl ?_ | refine Spl.f rfl ?_))
        refine OpJ.callV hr (fun _ _ => rfl) rfl rfl rfl ?_
        (repeat (first | refine Spl.t rfl ?_ | refine Spl.f rfl ?_))
        refine RegP.of rfl (by decide +kernel) ?_
        refine QuietP.of (QJ.call Awake4_c (fun _ _ => rfl) rfl rfl) ?_
        (repeat (first | refine Spl.t rfl ?_ | refine Spl.f rfl ?_))
        refine QuietP.of (QJ.call his (fun _ _ => rfl) rfl rfl) ?_
        (repeat (first | refine Spl.t rfl ?_ | refine Spl.f rfl ?_))
        refine Spl.t (by rw [decide_eq_true g1]; rfl) ?_
        (repeat (first | refine Spl.t rfl ?_ | refine Spl.f rfl ?_))
        refine Spl.f (decide_eq_false (by omega)) ?_
        (repeat (first | refine Spl.t rfl ?_ | refine Spl.f rfl ?_))
        refine Spl.t (decide_eq_true g1) ?_
        (repeat (first | refine Spl.t rfl ?_ | refine Spl.f rfl ?_))
        refine QuietP.of (QJ.call (Of4_c a e) (fun _ _ => rfl) rfl rfl) ?_
        (repeat (first | refine Spl.t rfl ?_ | refine Spl.f rfl ?_))
        refine IdxP.of (reD (a, e)) g1 (by simp [g2]) ?_
        (repeat (first | refine Spl.t rfl ?_ | refine Spl.f rfl ?_))
        refine QuietP.of (O.eqT 4 rfl rfl rfl rfl rfl eqRE_ok eqRE_g (eqRE (a, e) (a, e))) ?_
        (repeat (first | refine Spl.t rfl ?_ | refine Spl.f rfl ?_))
        exact FinP.open rfl (congrArg bv (by simp))
theorem ieRow (cs : List D) (h : (Ty.st [.st [.int .i64, .int .i64], .st [.st [.int .i64, .int .i64], .int .i32, .bool]]).ok cs) : ∃ x : IE, cs = reD x ∧ True := by
  obtain ⟨_, _, rfl, ⟨_, _, rfl, ⟨a0, rfl, _⟩, ⟨_, _, rfl, ⟨a1, rfl, _⟩, rfl⟩⟩, ⟨_, _, rfl, ⟨_, _, rfl, ⟨_, _, rfl, ⟨a2, rfl, _⟩, ⟨_, _, rfl, ⟨a3, rfl, _⟩, rfl⟩⟩, ⟨_, _, rfl, ⟨a4, rfl, _⟩, ⟨_, _, rfl, ⟨a5, rfl⟩, rfl⟩⟩⟩, rfl⟩⟩ := h
  exact ⟨(⟨a0, a1⟩, ⟨⟨a2, a3⟩, a4, a5⟩), rfl, trivial⟩
end Go.Proofs.E
end
section
namespace Go.Gv
open Go.RowKit
/-- What is known of a variable's cell is put in another way. -/
theorem SJ.viewCell {X : Cx} {t : T} {σ : Sg} (j off : Nat) {cs : List AV} {a a' : AV} (hj : look j σ = some (.cells cs)) (ha : cs[off]? = some a) (h : ∀ γ H u, Rep γ H a u → Rep γ H a' u) : SJ X t σ t ((j, .cells (cs.set off a')) :: σ) := fun γ H ac w s => by
  have he := s.mem.ent j _ hj
  obtain ⟨tt, us, h1, h2, h3⟩ := he
  have hm : Mem X.w0 X.H0 X.B γ H ((j, .cells (cs.set off a')) :: σ) w := by
    refine ⟨s.mem.keep, s.mem.hle, s.mem.hnew, s.mem.hok, fun i e hi => ?_, fun i e hi b hb => ?_, fun i e hi b hb => ?_, fun i e k e' b hi hk hb hb' => ?_⟩
    · rw [look_cons] at hi
      split at hi
      · next e1 =>
        subst e1; cases hi
        refine ⟨tt, us, h1, by simp [h2], fun l x u hx hu => ?_⟩
        rw [List.getElem?_set] at hx
        split at hx
        · next e2 =>
          subst e2
          split at hx
          · cases hx; exact h γ H u (h3 off a u ha hu)
          · cases hx
        · exact h3 l x u hx hu
      · exact s.mem.ent i e hi
    · rw [look_cons] at hi
      split at hi
      · next e1 => subst e1; cases hi; exact s.mem.free _ _ hj b hb
      · exact s.mem.free i e hi b hb
    · rw [look_cons] at hi
      split at hi
      · next e1 => subst e1; cases hi; exact s.mem.fresh _ _ hj b hb
      · exact s.mem.fresh i e hi b hb
    · have g : ∀ i e, look i ((j, Ent.cells (cs.set off a')) :: σ) = some e → ∀ b, blk γ i e b → ∃ f, look i σ = some f ∧ blk γ i f b := fun i e hi9 b hb9 => by
        rw [look_cons] at hi9
        split at hi9
        · next e1 => subst e1; cases hi9; exact ⟨_, hj, hb9⟩
        · exact ⟨e, hi9, hb9⟩
      obtain ⟨f, hf, hfb⟩ := g i e hi b hb
      obtain ⟨f', hf', hfb'⟩ := g k e' hk b hb'
      exact s.mem.apart i f k f' b hf hf' hfb hfb'
  have hbl : ∀ b, blks γ ((j, .cells (cs.set off a')) :: σ) b → blks γ σ b := fun b ⟨i, e, hi, hb⟩ => by
    rw [look_cons] at hi
    split at hi
    · next e1 => subst e1; cases hi; exact ⟨_, _, hj, hb⟩
    · exact ⟨i, e, hi, hb⟩
  exact ⟨γ, H, s.lam, s.round, let ⟨ms, h1, h2⟩ := s.defers; ⟨ms, h1, h2.1, fun b hb => ⟨(h2.2 b hb).1, (h2.2 b hb).2.1, fun x => (h2.2 b hb).2.2 (hbl b x)⟩⟩, s.size, s.pinned, s.tmp, hm⟩
/-- An empty row of one's own. -/
theorem SJ.newArr {X : Cx} {t : T} {σ : Sg} (i k : Nat) (hf : isFresh i t σ X.pin = true) : SJ X t σ t ((i, .arr k []) :: σ) := fun γ H a w s => by
  have key := s.new (d := none) (V := .junk) (v := undef) (n := 0) (mem_arr0 s.mem.hok γ i k) hf rfl (.junk _)
  exact ⟨_, H, key⟩
/-- A variable's cell that holds nil, as one that holds a row of nothing. -/
theorem SJ.nilCell {X : Cx} {t : T} {σ : Sg} (i j off k : Nat) {cs : List AV} (hj : look j σ = some (.cells cs)) (ha : cs[off]? = some (.d (.v (.slice none 0 0)))) (hf : isFresh i t σ X.pin = true) : SJ X t σ t ((j, .cells (cs.set off (.arr i k 0))) :: (i, .arr k []) :: σ) := fun γ H a w s => by
  have key := s.new (d := none) (V := .junk) (v := undef) (n := 0) (mem_arr0 s.mem.hok γ i k) hf rfl (.junk _)
  have hij : j ≠ i := (fresh_s hf hj).1
  have hn : (upd γ i ⟨w.heap.size, 0, fun _ => False⟩ i).n = 0 := by rw [upd_same]
  -- the cell, told anew: by what the row's place is
  have he := key.mem.ent j (.cells cs) (by rw [look_cons, if_neg hij]; exact hj)
  obtain ⟨tt, us, h1, h2, h3⟩ := he
  have hm : Mem X.w0 X.H0 X.B (upd γ i ⟨w.heap.size, 0, fun _ => False⟩) H ((j, .cells (cs.set off (.arr i k 0))) :: (i, .arr k []) :: σ) w := by
    have m := key.mem
    have hj' : look j ((i, Ent.arr k []) :: σ) = some (.cells cs) := by rw [look_cons, if_neg hij]; exact hj
    refine ⟨m.keep, m.hle, m.hnew, m.hok, fun l e hl => ?_, fun l e hl b hb => ?_, fun l e hl b hb => ?_, fun l e l' e' b hl hl' hb hb' => ?_⟩
    · rw [look_cons] at hl
      split at hl
      · next e1 =>
        subst e1; cases hl
        refine ⟨tt, us, h1, by simp [h2], fun p x u hx hu => ?_⟩
        rw [List.getElem?_set] at hx
        split at hx
        · next e2 =>
          subst e2
          split at hx
          · cases hx
            obtain rfl := rep_v (h3 off _ u ha hu)
            have := Rep.arr (γ := upd γ i ⟨w.heap.size, 0, fun _ => False⟩) (H := H) i k 0 none (Nat.zero_le _) (fun h => by rw [hn] at h; simp at h)
            rw [hn] at this; exact this
          · cases hx
        · exact h3 p x u hx hu
      · exact m.ent l e hl
    · rw [look_cons] at hl
      split at hl
      · next e1 => subst e1; cases hl; exact m.free _ _ hj' b hb
      · exact m.free l e hl b hb
    · rw [look_cons] at hl
      split at hl
      · next e1 => subst e1; cases hl; exact m.fresh _ _ hj' b hb
      · exact m.fresh l e hl b hb
    · have g : ∀ l e, look l ((j, Ent.cells (cs.set off (.arr i k 0))) :: (i, .arr k []) :: σ) = some e → ∀ b, blk (upd γ i ⟨w.heap.size, 0, fun _ => False⟩) l e b → ∃ f, look l ((i, Ent.arr k []) :: σ) = some f ∧ blk (upd γ i ⟨w.heap.size, 0, fun _ => False⟩) l f b := fun l e hl9 b hb9 => by
        rw [look_cons] at hl9
        split at hl9
        · next e1 => subst e1; cases hl9; exact ⟨_, hj', hb9⟩
        · exact ⟨e, hl9, hb9⟩
      obtain ⟨f, hf, hfb⟩ := g l e hl b hb
      obtain ⟨f', hf', hfb'⟩ := g l' e' hl' b hb'
      exact m.apart l f l' f' b hf hf' hfb hfb'
  refine ⟨_, H, key.lam, key.round, ?_, key.size, key.pinned, key.tmp, hm⟩
  obtain ⟨ms, g1, g2, g3⟩ := key.defers
  refine ⟨ms, g1, g2, fun b hb => ⟨(g3 b hb).1, (g3 b hb).2.1, fun ⟨l, e, hl, hbb⟩ => (g3 b hb).2.2 ?_⟩⟩
  rw [look_cons] at hl
  split at hl
  · next e1 => subst e1; cases hl; exact ⟨l, .cells cs, by rw [look_cons, if_neg hij]; exact hj, hbb⟩
  · exact ⟨l, e, hl, hbb⟩
/-- The row that a variable's cell holds is given to all. -/
theorem SJ.pubCell {X : Cx} {t : T} {σ : Sg} (i j off : Nat) {k n : Nat} {cs : List AV} {xs : List (List D)} (hi : look i σ = some (.arr k xs)) (hj : look j σ = some (.cells cs)) (ha : cs[off]? = some (.arr i k n)) (hn : n ≤ xs.length) (hm : n ≤ 9223372036854775807) :
    SJ X t σ t ((j, .cells (cs.set off (.d (.sl k (xs.take n))))) :: (i, .gone) :: σ) := fun γ H a w s => by
  obtain ⟨H', hle, ok, s'⟩ := s.pub hi rfl
  rw [subS_a] at s'
  have hij : j ≠ i := fun e => by subst e; rw [hi] at hj; cases hj
  have hj' : look j ((i, Ent.gone) :: σ) = some (.cells cs) := by rw [look_cons, if_neg hij]; exact hj
  obtain ⟨tt, us, h1, h2, h3⟩ := s'.mem.ent j _ hj'
  have hm' : Mem X.w0 X.H0 X.B γ H' ((j, .cells (cs.set off (.d (.sl k (xs.take n))))) :: (i, .gone) :: σ) w := by
    have m := s'.mem
    refine ⟨m.keep, m.hle, m.hnew, m.hok, fun l e hl => ?_, fun l e hl b hb => ?_, fun l e hl b hb => ?_, fun l e l' e' b hl hl' hb hb' => ?_⟩
    · rw [look_cons] at hl
      split at hl
      · next e1 =>
        subst e1; cases hl
        refine ⟨tt, us, h1, by simp [h2], fun p x u hx hu => ?_⟩
        rw [List.getElem?_set] at hx
        split at hx
        · next e2 =>
          subst e2
          split at hx
          · cases hx; exact arr_pub ok hn hm (h3 off _ u ha hu)
          · cases hx
        · exact h3 p x u hx hu
      · exact m.ent l e hl
    · rw [look_cons] at hl
      split at hl
      · next e1 => subst e1; cases hl; exact m.free _ _ hj' b hb
      · exact m.free l e hl b hb
    · rw [look_cons] at hl
      split at hl
      · next e1 => subst e1; cases hl; exact m.fresh _ _ hj' b hb
      · exact m.fresh l e hl b hb
    · have g : ∀ l e, look l ((j, Ent.cells (cs.set off (.d (.sl k (xs.take n))))) :: (i, .gone) :: σ) = some e → ∀ b, blk γ l e b → ∃ f, look l ((i, Ent.gone) :: σ) = some f ∧ blk γ l f b := fun l e hl9 b hb9 => by
        rw [look_cons] at hl9
        split at hl9
        · next e1 => subst e1; cases hl9; exact ⟨_, hj', hb9⟩
        · exact ⟨e, hl9, hb9⟩
      obtain ⟨f, hf, hfb⟩ := g l e hl b hb
      obtain ⟨f', hf', hfb'⟩ := g l' e' hl' b hb'
      exact m.apart l f l' f' b hf hf' hfb hfb'
  refine ⟨γ, H', s'.lam, s'.round, ?_, s'.size, s'.pinned, s'.tmp, hm'⟩
  obtain ⟨ms, g1, g2, g3⟩ := s'.defers
  refine ⟨ms, g1, g2, fun b hb => ⟨(g3 b hb).1, (g3 b hb).2.1, fun ⟨l, e, hl, hbb⟩ => (g3 b hb).2.2 ?_⟩⟩
  rw [look_cons] at hl
  split at hl
  · next e1 => subst e1; cases hl; exact ⟨l, .cells cs, hj', hbb⟩
  · exact ⟨l, e, hl, hbb⟩
end Go.Gv
end
section
open Go Go.Gv
attribute [local irreducible] Go.Gv.WJ Go.Gv.OpJ Go.Gv.QJ Go.Gv.Spl Go.Gv.Req Go.Gv.IdxP Go.Gv.RegP Go.Gv.FinP Go.Gv.QuietP Go.Gv.CellP Go.Gv.CellsP Go.Gv.ArrP Go.Gv.ArrsP Go.Gv.DropP Go.Gv.ByteP Go.Gv.StoreP
set_option maxRecDepth 100000
namespace Go.Proofs.E
attribute [local irreducible] elems
/-- A put, whatever the id is. -/
theorem PutAny_c {p : PT} {n : Int} {M : List IE} (h : isM p n M) (hl : M.length ≤ 1000000) (a : ID) (e : EN) : ∃ p' n' M' b, isM p' n' M' ∧ M.length ≤ M'.length ∧ M'.length ≤ M.length + 1 ∧ Cv 28 [mapv p n, idv a, env e] (.tup [mapv p' n', bv b]) := by
  by_cases hm : mayI a = true
  · refine ⟨_, _, _, true, isM_put h hm e, ?_, len_ins_le h.up, PutIs_c h hl a e hm⟩
    rw [len_insM h.up]; split <;> omega
  · exact ⟨p, n, M, false, h, Nat.le_refl _, by omega, PutNo_c h hl a e hm⟩
theorem PmapStays_c (l k : List IE) (st : Int) (hs0 : 0 ≤ st) (hs1 : st ≤ 255) : Cv 6 [.d (.sl 6 (l.map reD)), .d (.sl 6 (k.map reD)), .d (.v (.int .u8 st))] (bv true) := by
  refine Ct.of_vc Tryd.f6 Tryd.func6 rfl rfl fun w H B g0 => ?_
  refine Spl.of (fun h => ?_) (fun h => ?_)
  · (repeat (first | refine Spl.t rfl ?_ | refine Spl.f rfl ?_))
    refine OpJ.callV Awake4_c (fun _ _ => rfl) rfl rfl rfl ?_
    (repeat (first | refine Spl.t rfl ?_ | refine Spl.f rfl ?_))
    exact FinP.open rfl rfl
  have hlen : l.length ≤ 60 := by have := of_decide_eq_false h; simp at this; omega
  (repeat (first | refine Spl.t rfl ?_ | refine Spl.f rfl ?_))
  refine Spl.of (fun h2 => ?_) (fun h2 => ?_)
  · (repeat (first | refine Spl.t rfl ?_ | refine Spl.f rfl ?_))
    refine OpJ.callV Awake4_c (fun _ _ => rfl) rfl rfl rfl ?_
    (repeat (first | refine Spl.t rfl ?_ | refine Spl.f rfl ?_))
    exact FinP.open rfl rfl
  have klen : k.length ≤ 60 := by have := of_decide_eq_false h2; simp at this; omega
  (repeat (first | refine Spl.t rfl ?_ | refine Spl.f rfl ?_))
  refine WJ.loopK (V := Nat × PT × Int × List IE) (fun v => [(30, iv v.1)]) (fun v => [(7, .cells [.d v.2.1.d, iv v.2.2.1])]) [7] (fun v => l.length - v.1) (fun v => v.1 ≤ l.length ∧ v.2.2.2.length ≤ v.1 ∧ isM v.2.1 v.2.2.1 v.2.2.2) (0, .nil, 0, []) ⟨by simp, by simp, isM_nil⟩ (by repeat' (first | exact trivial | exact rfl | refine And.intro ?_ ?_)) (by repeat' (first | exact trivial | exact rfl | refine And.intro ?_ ?_)) ?_
  rintro ⟨i, p, n, M⟩ ⟨hi, hml, hM⟩
  simp only at hi hml hM
  refine Spl.of (fun h1 => ?_) (fun h1 => ?_)
  · have hlt : i < l.length := by have := of_decide_eq_true h1; simp at this; omega
    have hx : l[i]? = some l[i] := by simp
    generalize l[i] = x at hx
    obtain ⟨p', n', M', b, hM', _, hl', hp⟩ := PutAny_c hM (by omega) x.1 x.2
    (repeat (first | refine Spl.t rfl ?_ | refine Spl.f rfl ?_))
    refine IdxP.of (reD x) (by omega) (by simp [hx]) ?_
    refine OpJ.callV hp (fun _ _ => rfl) rfl rfl rfl ?_
    (repeat (first | refine Spl.t rfl ?_ | refine Spl.f rfl ?_))
    exact ⟨(i + 1, p', n', M'), ⟨by simp only; omega, by simp only; omega, hM'⟩, by simp only; omega, ⟨some_iv (wrap_id _ (by omega) (by omega)), trivial⟩, (by repeat' (first | exact trivial | exact rfl | refine And.intro ?_ ?_)), ⟨rfl, trivial⟩, (by repeat' (first | exact trivial | exact rfl | refine And.intro ?_ ?_))⟩
  · have it := iterIs hM
    have hml : M.length ≤ 60 := by omega
    (repeat (first | refine Spl.t rfl ?_ | refine Spl.f rfl ?_))
    refine OpJ.callV (All4_c p n) (fun _ _ => rfl) rfl rfl rfl ?_
    (repeat (first | refine Spl.t rfl ?_ | refine Spl.f rfl ?_))
    refine OpJ.callV (All4_c p n) (fun _ _ => rfl) rfl rfl rfl ?_
    (repeat (first | refine Spl.t rfl ?_ | refine Spl.f rfl ?_))
    refine WJ.shift (SJ.nilCell 56 10 0 6 rfl rfl rfl) ?_
    refine WJ.rangeK ieA M (V := List IE) (fun v => [(10, .cells [.arr 56 6 v.length]), (56, .arr 6 (v.map reD))]) [10, 56] (fun pre v => v = pre) (fun _ _ _ => False) [] it rfl rfl (.fn _ _) rfl (fun _ _ => rfl) rfl rfl (fun _ => rfl) (by repeat' (first | exact trivial | exact rfl | refine And.intro ?_ ?_)) rfl ?_ ?_ ?_
    · intro l0 pre x post v hL hI w0 H0 B0 g1
      intro w0 H0 B0 g1
      subst hI
      have hlp : v.length < M.length := by rw [hL]; simp
      refine Req.of ⟨by simp, (show v.length + 1 ≤ 1000000000 by omega)⟩ ?_
      refine ⟨v ++ [x], rfl, ⟨?_, ?_, ?_⟩⟩
      · exact congrArg (fun z => some (Ent.cells [AV.arr 56 6 z])) (by simp; rfl)
      · exact some_ear (by simp; rfl)
      · exact (by repeat' (first | exact trivial | exact rfl | refine And.intro ?_ ?_))
    · intro v hI
      subst hI
      refine WJ.shift (SJ.pubCell 56 10 0 rfl rfl rfl (by simp) (by omega)) ?_
      rw [List.take_of_length_le (by simp)]
      refine WJ.loopK (V := Nat × PT × Int × List IE) (fun v => [(60, iv v.1)]) (fun v => [(13, .cells [.d v.2.1.d, iv v.2.2.1])]) [13] (fun v => k.length - v.1) (fun u => u.1 ≤ k.length ∧ u.2.2.2.length ≤ v.length + u.1 ∧ v.length ≤ u.2.2.2.length ∧ isM u.2.1 u.2.2.1 u.2.2.2) (0, p, n, v) ⟨by simp, by simp, by simp, hM⟩ (by repeat' (first | exact trivial | exact rfl | refine And.intro ?_ ?_)) (by repeat' (first | exact trivial | exact rfl | refine And.intro ?_ ?_)) ?_
      rintro ⟨j, p2, n2, M2⟩ ⟨hj, hml2, hge, hM2⟩
      simp only at hj hml2 hge hM2
      refine Spl.of (fun h3 => ?_) (fun h3 => ?_)
      · have hlt : j < k.length := by have := of_decide_eq_true h3; simp at this; omega
        have hx : k[j]? = some k[j] := by simp
        generalize k[j] = x at hx
        obtain ⟨p', n', M', b, hM', hg', hl', hp⟩ := PutAny_c hM2 (by omega) x.1 x.2
        (repeat (first | refine Spl.t rfl ?_ | refine Spl.f rfl ?_))
        refine IdxP.of (reD x) (by omega) (by simp [hx]) ?_
        refine OpJ.callV hp (fun _ _ => rfl) rfl rfl rfl ?_
        (repeat (first | refine Spl.t rfl ?_ | refine Spl.f rfl ?_))
        exact ⟨(j + 1, p', n', M'), ⟨by simp only; omega, by simp only; omega, by simp only; omega, hM'⟩, by simp only; omega, ⟨some_iv (wrap_id _ (by omega) (by omega)), trivial⟩, (by repeat' (first | exact trivial | exact rfl | refine And.intro ?_ ?_)), ⟨rfl, trivial⟩, (by repeat' (first | exact trivial | exact rfl | refine And.intro ?_ ?_))⟩
      · (repeat (first | refine Spl.t rfl ?_ | refine Spl.f rfl ?_))
        refine OpJ.callV (All4_c p n) (fun _ _ => rfl) rfl rfl rfl ?_
        refine WJ.rangeK ieA v (V := Nat) (fun m => [(16, .cells [iv m]), (6, .cells [bv false])]) [16, 6] (fun pre m => m = pre.length ∧ pre.length ≤ st.toNat) (fun c pre m => c = .exit 6 ∧ m = st.toNat + 1 ∧ m ≤ v.length) 0 it rfl rfl (.fn _ _) rfl (fun _ _ => rfl) rfl rfl (fun _ => rfl) (by repeat' (first | exact trivial | exact rfl | refine And.intro ?_ ?_)) ⟨rfl, by simp⟩ ?_ ?_ ?_
        · intro l0 pre x post m hL hI w0 H0 B0 g1
          obtain ⟨hm, hms⟩ := hI
          intro w0 H0 B0 g1
          have hx : v[m]? = some x := by rw [hL, hm]; simp
          have hlp : m < v.length := by rw [hL, hm]; simp
          have hxk : (List.take v.length (v.map reD))[m]? = some (reD x) := by rw [List.take_of_length_le (by simp)]; simp [hx]
          refine RegP.of rfl (by decide +kernel) ?_
          refine Spl.f (decide_eq_false (by simp; omega)) ?_
          (repeat (first | refine Spl.t rfl ?_ | refine Spl.f rfl ?_))
          refine IdxP.of (reD x) (by omega) (by simpa using hxk) ?_
          (repeat (first | refine Spl.t rfl ?_ | refine Spl.f rfl ?_))
          refine QuietP.of (O.neT 3 rfl rfl rfl rfl rfl eqI_ok eqI_g (eqI x.1 x.1)) ?_
          (repeat (first | refine Spl.t rfl ?_ | refine Spl.f rfl ?_))
          refine Spl.f (by simp) ?_
          (repeat (first | refine Spl.t rfl ?_ | refine Spl.f rfl ?_))
          refine IdxP.of (reD x) (by omega) (by simpa using hxk) ?_
          (repeat (first | refine Spl.t rfl ?_ | refine Spl.f rfl ?_))
          refine QuietP.of (O.neT 4 rfl rfl rfl rfl rfl eqEN_ok eqEN_g (eqEN x.2 x.2)) ?_
          (repeat (first | refine Spl.t rfl ?_ | refine Spl.f rfl ?_))
          refine Spl.f (by simp) ?_
          (repeat (first | refine Spl.t rfl ?_ | refine Spl.f rfl ?_))
          have wst : IntKind.i64.wrap st = st := wrap_id _ (by omega) (by omega)
          have wm : IntKind.i64.wrap ((m : Int) + 1) = ((m + 1 : Nat) : Int) := wrap_id _ (by omega) (by omega)
          have fin : ∀ b : Bool, (decide (IntKind.i64.wrap st < IntKind.i64.wrap ((m : Int) + 1)) = b) → (b = true → m = st.toNat) ∧ (b = false → m + 1 ≤ st.toNat) := fun b hb => by
            rw [wst, wm] at hb
            constructor
            · intro e; subst e; have := of_decide_eq_true hb; omega
            · intro e; subst e; have := of_decide_eq_false hb; omega
          refine Spl.of (fun h4 => ?_) (fun h4 => ?_)
          · have hm0 : 0 < m := by have := of_decide_eq_true h4; omega
            obtain ⟨y, hy⟩ : ∃ y, v[m - 1]? = some y := ⟨v[m - 1]'(by omega), by simp⟩
            have hyk : (List.take v.length (v.map reD))[m - 1]? = some (reD y) := by rw [List.take_of_length_le (by simp)]; simp [hy]
            have hless : lessI y.1 x.1 = true := by
              have := List.pairwise_iff_getElem.1 hM.up (m - 1) m (by omega) hlp (by omega)
              rw [List.getElem?_eq_getElem (by omega)] at hy hx
              cases hy; cases hx; exact this
            have hw1 : IntKind.i64.wrap ((m : Int) - 1) = ((m - 1 : Nat) : Int) := by rw [wrap_id _ (by omega) (by omega)]; omega
            (repeat (first | refine Spl.t rfl ?_ | refine Spl.f rfl ?_))
            refine IdxP.of (reD y) (by rw [hw1]; omega) (by rw [hw1]; simpa using hyk) ?_
            (repeat (first | refine Spl.t rfl ?_ | refine Spl.f rfl ?_))
            refine QuietP.of (QJ.call (Less_c y.1 x.1) (fun _ _ => rfl) rfl rfl) ?_
            (repeat (first | refine Spl.t rfl ?_ | refine Spl.f rfl ?_))
            refine Spl.f (by rw [hless]; rfl) ?_
            (repeat (first | refine Spl.t rfl ?_ | refine Spl.f rfl ?_))
            refine Spl.of (fun h5 => ?_) (fun h5 => ?_)
            · have := (fin true h5).1 rfl
              (repeat (first | refine Spl.t rfl ?_ | refine Spl.f rfl ?_))
              exact ⟨m + 1, ⟨rfl, by omega, by omega⟩, ⟨congrArg (fun z : Int => some (Ent.cells [iv z])) wm, (by repeat' (first | exact trivial | exact rfl | refine And.intro ?_ ?_))⟩⟩
            · have := (fin false h5).2 rfl
              (repeat (first | refine Spl.t rfl ?_ | refine Spl.f rfl ?_))
              exact ⟨m + 1, ⟨by simp [hm], by simp; omega⟩, ⟨congrArg (fun z : Int => some (Ent.cells [iv z])) wm, (by repeat' (first | exact trivial | exact rfl | refine And.intro ?_ ?_))⟩⟩
          · (repeat (first | refine Spl.t rfl ?_ | refine Spl.f rfl ?_))
            refine Spl.of (fun h5 => ?_) (fun h5 => ?_)
            · have := (fin true h5).1 rfl
              (repeat (first | refine Spl.t rfl ?_ | refine Spl.f rfl ?_))
              exact ⟨m + 1, ⟨rfl, by omega, by omega⟩, ⟨congrArg (fun z : Int => some (Ent.cells [iv z])) wm, (by repeat' (first | exact trivial | exact rfl | refine And.intro ?_ ?_))⟩⟩
            · have := (fin false h5).2 rfl
              (repeat (first | refine Spl.t rfl ?_ | refine Spl.f rfl ?_))
              exact ⟨m + 1, ⟨by simp [hm], by simp; omega⟩, ⟨congrArg (fun z : Int => some (Ent.cells [iv z])) wm, (by repeat' (first | exact trivial | exact rfl | refine And.intro ?_ ?_))⟩⟩
        · rintro m ⟨hm, hms⟩
          (have wst : IntKind.i64.wrap (IntKind.i64.wrap st + 1) = st + 1 := (by rw [wrap_id st (by omega) (by omega), wrap_id _ (by omega) (by omega)]); refine RegP.of rfl (by decide +kernel) ?_; refine QuietP.of (QJ.call Awake4_c (fun _ _ => rfl) rfl rfl) ?_; (repeat (first | refine Spl.t rfl ?_ | refine Spl.f rfl ?_)); refine QuietP.of (QJ.call (Len4_c p.d n) (fun _ _ => rfl) rfl rfl) ?_; (repeat (first | refine Spl.t rfl ?_ | refine Spl.f rfl ?_)); refine Spl.t (by rw [hM.len]; simp) ?_; (repeat (first | refine Spl.t rfl ?_ | refine Spl.f rfl ?_)); refine QuietP.of (QJ.call (Len4_c p2.d n2) (fun _ _ => rfl) rfl rfl) ?_; (repeat (first | refine Spl.t rfl ?_ | refine Spl.f rfl ?_)); refine QuietP.of (QJ.call (Len4_c p.d n) (fun _ _ => rfl) rfl rfl) ?_; (repeat (first | refine Spl.t rfl ?_ | refine Spl.f rfl ?_)); refine Spl.t (decide_eq_true (by rw [hM.len, hM2.len]; omega)) ?_; (repeat (first | refine Spl.t rfl ?_ | refine Spl.f rfl ?_)); refine FinP.open rfl (congrArg bv (decide_eq_true ?_)); rw [wst]; simp only [List.length_take, List.length_map]; split <;> omega)
        · rintro c pre m ⟨rfl, hm, hmv⟩
          (have wst : IntKind.i64.wrap (IntKind.i64.wrap st + 1) = st + 1 := (by rw [wrap_id st (by omega) (by omega), wrap_id _ (by omega) (by omega)]); refine RegP.of rfl (by decide +kernel) ?_; refine QuietP.of (QJ.call Awake4_c (fun _ _ => rfl) rfl rfl) ?_; (repeat (first | refine Spl.t rfl ?_ | refine Spl.f rfl ?_)); refine QuietP.of (QJ.call (Len4_c p.d n) (fun _ _ => rfl) rfl rfl) ?_; (repeat (first | refine Spl.t rfl ?_ | refine Spl.f rfl ?_)); refine Spl.t (by rw [hM.len]; simp) ?_; (repeat (first | refine Spl.t rfl ?_ | refine Spl.f rfl ?_)); refine QuietP.of (QJ.call (Len4_c p2.d n2) (fun _ _ => rfl) rfl rfl) ?_; (repeat (first | refine Spl.t rfl ?_ | refine Spl.f rfl ?_)); refine QuietP.of (QJ.call (Len4_c p.d n) (fun _ _ => rfl) rfl rfl) ?_; (repeat (first | refine Spl.t rfl ?_ | refine Spl.f rfl ?_)); refine Spl.t (decide_eq_true (by rw [hM.len, hM2.len]; omega)) ?_; (repeat (first | refine Spl.t rfl ?_ | refine Spl.f rfl ?_)); refine FinP.open rfl (congrArg bv (decide_eq_true ?_)); rw [wst]; simp only [List.length_take, List.length_map]; split <;> omega)
    · intro c p v h
      exact h.elim
end Go.Proofs.E
end
