/- Maps of ids: Get, Put, Last. -/
import Derived.Test.YthfemmcodfajaaaDoorE18
set_option linter.unusedVariables false
set_option linter.unusedSimpArgs false
open Go Go.Gv
attribute [local irreducible] Go.Gv.WJ Go.Gv.OpJ Go.Gv.QJ Go.Gv.Spl Go.Gv.Req Go.Gv.IdxP Go.Gv.RegP Go.Gv.FinP Go.Gv.QuietP Go.Gv.CellP Go.Gv.CellsP Go.Gv.ArrP Go.Gv.ArrsP Go.Gv.DropP Go.Gv.ByteP Go.Gv.StoreP
set_option maxRecDepth 100000
namespace Go.Proofs.E
abbrev mapv (p : PT) (n : Int) : AV := .agg [.d p.d, iv n]
def EN.zero : EN := ⟨⟨0, 0⟩, 0, false⟩
def getM (p : PT) (a : ID) : Option EN := if mayI a = true then PT.get 8 (keyI a) p else none
abbrev getv : Option EN → AV
  | some e => .tup [env e, bv true]
  | none => .tup [env EN.zero, bv false]
/-- What is left of a way down. -/
def down (k : Nat) (p : PT) : Nat → PT
  | 0 => p
  | i + 1 => (down k p i).kids.getD (dg k (7 - i)) .nil
theorem node_kid {ks : List PT} {e : Option EN} {m : Nat} {q : PT} (h : ks[m]? = some q) : (PT.ds ks ++ [eD e]).drop (m * 1) = q.d :: (ks.map PT.d ++ [eD e]).drop (m + 1) := by
  have hm := (List.getElem?_eq_some_iff.1 h).1
  rw [ds_map, Nat.mul_one, List.drop_eq_getElem_cons (by simp; omega)]
  congr 1
  rw [List.getElem_append_left (by simpa using hm), List.getElem_map]
  congr 1
  exact (List.getElem?_eq_some_iff.1 h).2
theorem Get4_c (p : PT) (n : Int) (a : ID) (hw : PT.wf 8 p) : Cv 32 [mapv p n, idv a] (getv (getM p a)) := by
  refine Ct.of_vc Tryd.f32 Tryd.func32 rfl rfl fun w H B g0 => ?_
  refine OpJ.callV (Check_c a) (fun _ _ => rfl) rfl rfl rfl ?_
  refine Spl.of (fun h => ?_) (fun h => ?_)
  · have hm : ¬ mayI a = true := fun y => by simp [checkI, y] at h
    rw [getM, if_neg hm]
    exact FinP.open rfl rfl
  · have hm : mayI a = true := by
      cases y : mayI a with
      | true => rfl
      | false => simp [checkI, y] at h
    rw [getM, if_pos hm]
    (repeat (first | refine Spl.t rfl ?_ | refine Spl.f rfl ?_))
    refine WJ.loopK (V := Nat × PT) (fun v => [(7, iv v.1), (6, .d v.2.d)]) (fun _ => []) [] (fun v => 8 - v.1) (fun v => v.1 ≤ 8 ∧ PT.wf (8 - v.1) v.2 ∧ PT.get (8 - v.1) (keyI a) v.2 = PT.get 8 (keyI a) p) (0, p) ⟨by omega, hw, rfl⟩ (by repeat' (first | exact trivial | exact rfl | refine And.intro ?_ ?_)) (by repeat' (first | exact trivial | exact rfl | refine And.intro ?_ ?_)) ?_
    rintro ⟨i, q⟩ ⟨hi, hq, hg⟩
    simp only at hi hq hg
    refine Spl.of (fun h1 => ?_) (fun h1 => ?_)
    · have hlt : i < 8 := by have := of_decide_eq_true h1; simp only at this; omega
      obtain ⟨r, hr⟩ : ∃ r, 8 - i = r + 1 := ⟨7 - i, by omega⟩
      rw [hr] at hq hg
      rcases hq with rfl | ⟨ks, rfl, hl, hws, _⟩
      · have hn : PT.get 8 (keyI a) p = none := by rw [← hg]; cases r <;> rfl
        rw [hn]
        (repeat (first | refine Spl.t rfl ?_ | refine Spl.f rfl ?_))
        exact FinP.open rfl rfl
      · have hd := digit_c (keyI a) i (by have := keyI_lt hm; omega) hlt
        have e1 : digK (keyI a) i = dg (keyI a) r := by unfold digK dg; rw [show 7 - i = r by omega]
        rw [e1] at hd
        have hlt2 := dg_lt (keyI a) r
        obtain ⟨q', hq'⟩ : ∃ q', ks[dg (keyI a) r]? = some q' := ⟨ks[dg (keyI a) r]'(by omega), by simp⟩
        have e2 : 8 - (i + 1) = r := by omega
        have hg' : PT.get r (keyI a) q' = PT.get 8 (keyI a) p := by
          rw [← hg, PT.get, List.getD_eq_getElem?_getD, hq']; rfl
        (repeat (first | refine Spl.t rfl ?_ | refine Spl.f rfl ?_))
        refine RegP.of rfl (by decide +kernel) ?_
        refine QuietP.of (QJ.call (key_c a hm) (fun _ _ => rfl) rfl rfl) ?_
        refine QuietP.of (QJ.call hd (fun _ _ => rfl) rfl rfl) ?_
        refine Req.of ⟨by omega, by omega⟩ ?_
        refine DropP.of _ (node_kid hq') (Nat.succ_le_succ (Nat.zero_le _)) ?_
        (repeat (first | refine Spl.t rfl ?_ | refine Spl.f rfl ?_))
        exact ⟨(i + 1, q'), ⟨by simp only; omega, by simp only [e2]; exact hws q' (List.mem_of_getElem? hq'), by simp only [e2]; exact hg'⟩, by simp only; omega, ⟨some_iv (wrap_id _ (by omega) (by omega)), rfl, trivial⟩, (by repeat' (first | exact trivial | exact rfl | refine And.intro ?_ ?_)), (by repeat' (first | exact trivial | exact rfl | refine And.intro ?_ ?_)), (by repeat' (first | exact trivial | exact rfl | refine And.intro ?_ ?_))⟩
    · have he : i = 8 := by have := of_decide_eq_false h1; simp only at this; omega
      subst he
      rcases hq with rfl | ⟨e, rfl⟩
      · have hn : PT.get 8 (keyI a) p = none := by rw [← hg]; rfl
        rw [hn]
        (repeat (first | refine Spl.t rfl ?_ | refine Spl.f rfl ?_))
        exact FinP.open rfl rfl
      · have hn : PT.get 8 (keyI a) p = some e := by rw [← hg]; rfl
        rw [hn]
        (repeat (first | refine Spl.t rfl ?_ | refine Spl.f rfl ?_))
        exact FinP.open rfl rfl
theorem PutM_c (p : PT) (n : Int) (a : ID) (e : EN) (hw : PT.wf 8 p) (h0 : 0 ≤ n) (h1 : n ≤ 1000000) : Cv 28 [mapv p n, idv a, env e]
    (if mayI a = true then .tup [mapv (PT.put 8 (keyI a) e p) (if (getM p a).isSome = true then n else n + 1), bv true] else .tup [mapv p n, bv false]) := by
  have hg := Get4_c p n a hw
  refine Ct.of_vc Tryd.f28 Tryd.func28 rfl rfl fun w H B g0 => ?_
  refine OpJ.callV (Check_c a) (fun _ _ => rfl) rfl rfl rfl ?_
  refine Spl.of (fun h => ?_) (fun h => ?_)
  · have hm : ¬ mayI a = true := fun y => by simp [checkI, y] at h
    rw [if_neg hm]
    (repeat (first | refine Spl.t rfl ?_ | refine Spl.f rfl ?_))
    exact FinP.open rfl rfl
  · have hm : mayI a = true := by
      cases y : mayI a with
      | true => rfl
      | false => simp [checkI, y] at h
    have hp := put_c 8 (keyI a) e p (Nat.le_refl _) (by have := keyI_lt hm; omega) hw
    rw [if_pos hm]
    (repeat (first | refine Spl.t rfl ?_ | refine Spl.f rfl ?_))
    cases hgm : getM p a with
    | some e' =>
      rw [hgm] at hg
      refine OpJ.callV hg (fun _ _ => rfl) rfl rfl rfl ?_
      (repeat (first | refine Spl.t rfl ?_ | refine Spl.f rfl ?_))
      refine RegP.of rfl (by decide +kernel) ?_
      refine QuietP.of (QJ.call (key_c a hm) (fun _ _ => rfl) rfl rfl) ?_
      refine QuietP.of (QJ.call hp (fun _ _ => rfl) rfl rfl) ?_
      (repeat (first | refine Spl.t rfl ?_ | refine Spl.f rfl ?_))
      exact FinP.open rfl rfl
    | none =>
      rw [hgm] at hg
      refine OpJ.callV hg (fun _ _ => rfl) rfl rfl rfl ?_
      (repeat (first | refine Spl.t rfl ?_ | refine Spl.f rfl ?_))
      refine RegP.of rfl (by decide +kernel) ?_
      refine QuietP.of (QJ.call (key_c a hm) (fun _ _ => rfl) rfl rfl) ?_
      refine QuietP.of (QJ.call hp (fun _ _ => rfl) rfl rfl) ?_
      (repeat (first | refine Spl.t rfl ?_ | refine Spl.f rfl ?_))
      refine FinP.open rfl ?_
      show AV.tup [.agg [_, iv (IntKind.i64.wrap (n + 1))], _] = _
      rw [wrap_id _ (by omega) (by omega)]; rfl
end Go.Proofs.E
