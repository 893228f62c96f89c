/- The law PmapPlays. -/
import Derived.Test.YthfemmcodfajaaaDoorE25
set_option linter.unusedVariables false
set_option linter.unusedSimpArgs false
open Go Go.Gv
attribute [local irreducible] Go.Gv.WJ Go.Gv.OpJ Go.Gv.QJ Go.Gv.Spl Go.Gv.Req Go.Gv.IdxP Go.Gv.RegP Go.Gv.FinP Go.Gv.QuietP Go.Gv.CellP Go.Gv.CellsP Go.Gv.ArrP Go.Gv.ArrsP Go.Gv.DropP Go.Gv.ByteP Go.Gv.StoreP
set_option maxRecDepth 100000
namespace Go.Proofs.E
attribute [local irreducible] elems
theorem getIx_none {a : ID} : ∀ {N : List IE}, alook a N = none → getIx a N = -1
  | [], _ => rfl
  | y :: l, h => by
    rw [alook] at h
    split at h
    · cases h
    · next hn => rw [getIx, if_neg (fun e => hn e.symm), getIx_none h]; rfl
theorem getIx_some {a : ID} {e : EN} : ∀ {N : List IE}, alook a N = some e → 0 ≤ getIx a N ∧ N[(getIx a N).toNat]? = some (a, e)
  | [], h => by cases h
  | y :: l, h => by
    rw [alook] at h
    split at h
    · next hy => cases h; rw [getIx, if_pos hy.symm]; exact ⟨by decide, by cases y; simp_all⟩
    · next hn =>
      obtain ⟨h1, h2⟩ := getIx_some h
      rw [getIx, if_neg (fun e => hn e.symm), if_neg (by omega)]
      refine ⟨by omega, ?_⟩
      rw [show (getIx a l + 1).toNat = (getIx a l).toNat + 1 by omega]
      simpa using h2
theorem rfold_done {a : ID} {e : EN} : ∀ (N out : List IE), (∀ y, y ∈ N → y.1 ≠ a) → N.foldl (rstep a e) (out, true) = (out ++ N, true)
  | [], out, _ => by simp
  | y :: l, out, h => by
    have : rstep a e (out, true) y = (out ++ [y], true) := by simp [rstep, h y (by simp)]
    rw [List.foldl_cons, this, rfold_done l _ fun z hz => h z (List.mem_cons_of_mem _ hz), List.append_assoc]; rfl
theorem rfold_ins {a : ID} {e : EN} : ∀ (N out : List IE), upM N → (if (N.foldl (rstep a e) (out, false)).2 = true then (N.foldl (rstep a e) (out, false)).1 else (N.foldl (rstep a e) (out, false)).1 ++ [(a, e)]) = out ++ insM a e N
  | [], out, _ => by simp [insM]
  | y :: l, out, h => by
    obtain ⟨h1, h2⟩ := List.pairwise_cons.1 h
    rw [List.foldl_cons, insM]
    by_cases hl : lessI y.1 a = true
    · have hne : ¬ a = y.1 := fun e => less_irr a (by rw [← e] at hl; exact hl)
      have hnl : ¬ lessI a y.1 = true := fun x => less_irr a (less_tr x hl)
      have : rstep a e (out, false) y = (out ++ [y], false) := by
        have hne' : ¬ y.1 = a := fun h => hne h.symm
        simp [rstep, hl, hne']
      rw [this, rfold_ins l _ h2, if_neg hnl, if_neg hne, List.append_assoc]; rfl
    · by_cases he : a = y.1
      · have hd : ∀ z, z ∈ l → z.1 ≠ a := fun z hz e => less_irr a (by have := h1 z hz; rw [e, ← he] at this; exact this)
        have : rstep a e (out, false) y = (out ++ [(a, e)], true) := by
          have h0 : lessI y.1 a = false := by simpa using hl
          simp only [rstep, h0]; simp [he]
        rw [this, rfold_done l _ hd, if_pos rfl, if_neg (by rw [he]; exact less_irr _), if_pos he, List.append_assoc]; rfl
      · have hl' := less_tot hl (fun e => he e.symm)
        have hd : ∀ z, z ∈ l → z.1 ≠ a := fun z hz e => less_irr a (by have := less_tr hl' (h1 z hz); rw [e] at this; exact this)
        have : rstep a e (out, false) y = (out ++ [(a, e)] ++ [y], true) := by
          have h0 : lessI y.1 a = false := by simpa using hl
          have hne' : ¬ y.1 = a := fun h => he h.symm
          simp only [rstep, h0]; simp [hne']
        rw [this, rfold_done l _ hd, if_pos rfl, if_pos hl']; simp
theorem refPut_ins {a : ID} {e : EN} {N : List IE} (h : upM N) : refPut a e N = insM a e N := by
  have := rfold_ins (e := e) (a := a) N [] h
  rw [List.nil_append] at this
  exact this
theorem RPutIs_c (N : List IE) (h : upM N) (a : ID) (e : EN) (hN : N.length ≤ 1000000) (hm : mayI a = true) : Cv 29 [.d (.sl 6 (N.map reD)), reV (a, e)] (.tup [.d (.sl 6 ((insM a e N).map reD)), bv true]) := by
  have := RPut_c N a e hN
  rw [if_pos hm, refPut_ins h] at this
  exact this
theorem RPutNo_c (N : List IE) (a : ID) (e : EN) (hN : N.length ≤ 1000000) (hm : ¬ mayI a = true) : Cv 29 [.d (.sl 6 (N.map reD)), reV (a, e)] (.tup [.d (.sl 6 (N.map reD)), bv false]) := by
  have := RPut_c N a e hN
  rw [if_neg hm] at this
  exact this
theorem len_ins_le {a : ID} {e : EN} {M : List IE} (h : upM M) : (insM a e M).length ≤ M.length + 1 := by
  rw [len_insM h]; split <;> omega
theorem PmapPlays_c (l : List IE) (a : ID) : Cv 5 [.d (.sl 6 (l.map reD)), idv a] (bv true) := by
  refine Ct.of_vc Tryd.f5 Tryd.func5 rfl rfl fun w H B g0 => ?_
  refine Spl.of (fun h => ?_) (fun h => ?_)
  · (repeat (first | refine Spl.t rfl ?_ | refine Spl.f rfl ?_))
    refine OpJ.callV Awake4_c (fun _ _ => rfl) rfl rfl rfl ?_
    exact FinP.open rfl rfl
  · have hlen : l.length ≤ 100 := by have := of_decide_eq_false h; simp at this; omega
    (repeat (first | refine Spl.t rfl ?_ | refine Spl.f rfl ?_))
    refine WJ.shift (SJ.nilD 6 6 rfl) ?_
    refine WJ.loopK (V := Nat × PT × Int × List IE) (fun v => [(22, iv v.1), (6, .d (.sl 6 (v.2.2.2.map reD)))]) (fun v => [(5, .cells [.d v.2.1.d, iv v.2.2.1])]) [5] (fun v => l.length - v.1) (fun v => v.1 ≤ l.length ∧ v.2.2.2.length ≤ v.1 ∧ isM v.2.1 v.2.2.1 v.2.2.2) (0, .nil, 0, []) ⟨by simp, by simp, isM_nil⟩ (by repeat' (first | exact trivial | exact rfl | refine And.intro ?_ ?_)) (by repeat' (first | exact trivial | exact rfl | refine And.intro ?_ ?_)) ?_
    rintro ⟨i, p, n, M⟩ ⟨hi, hml, hM⟩
    simp only at hi hml hM
    refine Spl.of (fun h1 => ?_) (fun h1 => ?_)
    · have hlt : i < l.length := by have := of_decide_eq_true h1; simp at this; omega
      have hx : l[i]? = some l[i] := by simp
      generalize l[i] = x at hx
      (repeat (first | refine Spl.t rfl ?_ | refine Spl.f rfl ?_))
      refine IdxP.of (reD x) (by omega) (by simp [hx]) ?_
      by_cases hm : mayI x.1 = true
      · have hM2 := isM_put hM hm x.2
        have hl2 := len_ins_le (a := x.1) (e := x.2) hM.up
        (repeat (first | refine Spl.t rfl ?_ | refine Spl.f rfl ?_))
        refine OpJ.callV (PutIs_c hM (by omega) x.1 x.2 hm) (fun _ _ => rfl) rfl rfl rfl ?_
        (repeat (first | refine Spl.t rfl ?_ | refine Spl.f rfl ?_))
        refine OpJ.callV (Of4_c x.1 x.2) (fun _ _ => rfl) rfl rfl rfl ?_
        (repeat (first | refine Spl.t rfl ?_ | refine Spl.f rfl ?_))
        refine OpJ.callV (RPutIs_c M hM.up x.1 x.2 (by omega) hm) (fun _ _ => rfl) rfl rfl rfl ?_
        (repeat (first | refine Spl.t rfl ?_ | refine Spl.f rfl ?_))
        refine OpJ.callV (Len4_c _ _) (fun _ _ => rfl) rfl rfl rfl ?_
        (repeat (first | refine Spl.t rfl ?_ | refine Spl.f rfl ?_))
        refine Spl.f (by rw [hM2.len]; simp) ?_
        (repeat (first | refine Spl.t rfl ?_ | refine Spl.f rfl ?_))
        exact ⟨(i + 1, _, _, insM x.1 x.2 M), ⟨by simp only; omega, by simp only; omega, hM2⟩, by simp only; omega, ⟨some_iv (wrap_id _ (by omega) (by omega)), rfl, trivial⟩, (by repeat' (first | exact trivial | exact rfl | refine And.intro ?_ ?_)), ⟨rfl, trivial⟩, (by repeat' (first | exact trivial | exact rfl | refine And.intro ?_ ?_))⟩
      · (repeat (first | refine Spl.t rfl ?_ | refine Spl.f rfl ?_))
        refine OpJ.callV (PutNo_c hM (by omega) x.1 x.2 hm) (fun _ _ => rfl) rfl rfl rfl ?_
        (repeat (first | refine Spl.t rfl ?_ | refine Spl.f rfl ?_))
        refine OpJ.callV (Of4_c x.1 x.2) (fun _ _ => rfl) rfl rfl rfl ?_
        (repeat (first | refine Spl.t rfl ?_ | refine Spl.f rfl ?_))
        refine OpJ.callV (RPutNo_c M x.1 x.2 (by omega) hm) (fun _ _ => rfl) rfl rfl rfl ?_
        (repeat (first | refine Spl.t rfl ?_ | refine Spl.f rfl ?_))
        refine OpJ.callV (Len4_c _ _) (fun _ _ => rfl) rfl rfl rfl ?_
        (repeat (first | refine Spl.t rfl ?_ | refine Spl.f rfl ?_))
        refine Spl.f (by rw [hM.len]; simp) ?_
        (repeat (first | refine Spl.t rfl ?_ | refine Spl.f rfl ?_))
        exact ⟨(i + 1, p, n, M), ⟨by simp only; omega, by simp only; omega, hM⟩, by simp only; omega, ⟨some_iv (wrap_id _ (by omega) (by omega)), rfl, trivial⟩, (by repeat' (first | exact trivial | exact rfl | refine And.intro ?_ ?_)), ⟨rfl, trivial⟩, (by repeat' (first | exact trivial | exact rfl | refine And.intro ?_ ?_))⟩
    · have hg := GetIs_c hM a
      have hr := RGet_c M a (by omega)
      have his := Is4_c hM (by omega) M (by omega)
      rw [decide_eq_true rfl] at his
      cases ha : alook a M with
      | none =>
        rw [ha] at hg
        rw [getIx_none ha] at hr
        (repeat (first | refine Spl.t rfl ?_ | refine Spl.f rfl ?_))
        refine OpJ.callV hg (fun _ _ => rfl) rfl rfl rfl ?_
        (repeat (first | refine Spl.t rfl ?_ | refine Spl.f rfl ?_))
        refine OpJ.callV (Of_c a) (fun _ _ => rfl) rfl rfl rfl ?_
        (repeat (first | refine Spl.t rfl ?_ | refine Spl.f rfl ?_))
        refine OpJ.callV hr (fun _ _ => rfl) rfl rfl rfl ?_
        (repeat (first | refine Spl.t rfl ?_ | refine Spl.f rfl ?_))
        refine RegP.of rfl (by decide +kernel) ?_
        refine QuietP.of (QJ.call Awake4_c (fun _ _ => rfl) rfl rfl) ?_
        (repeat (first | refine Spl.t rfl ?_ | refine Spl.f rfl ?_))
        refine QuietP.of (QJ.call his (fun _ _ => rfl) rfl rfl) ?_
        (repeat (first | refine Spl.t rfl ?_ | refine Spl.f rfl ?_))
        refine QuietP.of (O.eqT 4 rfl rfl rfl rfl rfl eqEN_ok eqEN_g (eqEN EN.zero EN.zero)) ?_
        (repeat (first | refine Spl.t rfl ?_ | refine Spl.f rfl ?_))
        exact FinP.open rfl rfl
      | some e =>
        obtain ⟨g1, g2⟩ := getIx_some ha
        rw [ha] at hg
        (repeat (first | refine Spl.t rfl ?_ | refine Spl.f rfl ?_))
        refine OpJ.callV hg (fun _ _ => rfl) rfl rfl rfl ?_
        (repeat (first | refine Spl.t rfl ?_ | refine Spl.f rfl ?_))
        refine OpJ.callV (Of_c a) (fun _ _ => rfl) rfl rfl rfl ?_
        (repeat (first | refine Spl.t rfl ?_ | refine Spl.f rfl ?_))
        refine OpJ.callV hr (fun _ _ => rfl) rfl rfl rfl ?_
        (repeat (first | refine Spl.t rfl ?_ | refine Spl.f rfl ?_))
        refine RegP.of rfl (by decide +kernel) ?_
        refine QuietP.of (QJ.call Awake4_c (fun _ _ => rfl) rfl rfl) ?_
        (repeat (first | refine Spl.t rfl ?_ | refine Spl.f rfl ?_))
        refine QuietP.of (QJ.call his (fun _ _ => rfl) rfl rfl) ?_
        (repeat (first | refine Spl.t rfl ?_ | refine Spl.f rfl ?_))
        refine Spl.t (by rw [decide_eq_true g1]; rfl) ?_
        (repeat (first | refine Spl.t rfl ?_ | refine Spl.f rfl ?_))
        refine Spl.f (decide_eq_false (by omega)) ?_
        (repeat (first | refine Spl.t rfl ?_ | refine Spl.f rfl ?_))
        refine Spl.t (decide_eq_true g1) ?_
        (repeat (first | refine Spl.t rfl ?_ | refine Spl.f rfl ?_))
        refine QuietP.of (QJ.call (Of4_c a e) (fun _ _ => rfl) rfl rfl) ?_
        (repeat (first | refine Spl.t rfl ?_ | refine Spl.f rfl ?_))
        refine IdxP.of (reD (a, e)) g1 (by simp [g2]) ?_
        (repeat (first | refine Spl.t rfl ?_ | refine Spl.f rfl ?_))
        refine QuietP.of (O.eqT 4 rfl rfl rfl rfl rfl eqRE_ok eqRE_g (eqRE (a, e) (a, e))) ?_
        (repeat (first | refine Spl.t rfl ?_ | refine Spl.f rfl ?_))
        exact FinP.open rfl (congrArg bv (by simp))
theorem ieRow (cs : List D) (h : (Ty.st [.st [.int .i64, .int .i64], .st [.st [.int .i64, .int .i64], .int .i32, .bool]]).ok cs) : ∃ x : IE, cs = reD x ∧ True := by
  obtain ⟨_, _, rfl, ⟨_, _, rfl, ⟨a0, rfl, _⟩, ⟨_, _, rfl, ⟨a1, rfl, _⟩, rfl⟩⟩, ⟨_, _, rfl, ⟨_, _, rfl, ⟨_, _, rfl, ⟨a2, rfl, _⟩, ⟨_, _, rfl, ⟨a3, rfl, _⟩, rfl⟩⟩, ⟨_, _, rfl, ⟨a4, rfl, _⟩, ⟨_, _, rfl, ⟨a5, rfl⟩, rfl⟩⟩⟩, rfl⟩⟩ := h
  exact ⟨(⟨a0, a1⟩, ⟨⟨a2, a3⟩, a4, a5⟩), rfl, trivial⟩
end Go.Proofs.E
