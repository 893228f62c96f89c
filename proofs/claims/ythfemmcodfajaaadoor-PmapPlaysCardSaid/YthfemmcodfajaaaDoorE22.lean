/- Maps of ids: Last. -/
import Derived.Test.YthfemmcodfajaaaDoorE21
set_option linter.unusedVariables false
set_option linter.unusedSimpArgs false
open Go Go.Gv
attribute [local irreducible] Go.Gv.WJ Go.Gv.OpJ Go.Gv.QJ Go.Gv.Spl Go.Gv.Req Go.Gv.IdxP Go.Gv.RegP Go.Gv.FinP Go.Gv.QuietP Go.Gv.CellP Go.Gv.CellsP Go.Gv.ArrP Go.Gv.ArrsP Go.Gv.DropP Go.Gv.ByteP Go.Gv.StoreP
set_option maxRecDepth 100000
namespace Go.Proofs.E
theorem elems_ne : ∀ (r k : Nat) (p : PT), PT.wf r p → p.isNil = false → elems r k p ≠ []
  | 0, k, p, hw, hn => by
    rcases hw with rfl | ⟨e, rfl⟩
    · cases hn
    · simp [elems, PT.ent]
  | r + 1, k, p, hw, hn => by
    rcases hw with rfl | ⟨ks, rfl, hl, hws, q, hq, hqn⟩
    · cases hn
    · intro h
      rw [elems, List.flatMap_eq_nil_iff] at h
      obtain ⟨d, hd⟩ := List.getElem?_of_mem hq
      have hlt : d < 16 := by rw [← hl]; exact (List.getElem?_eq_some_iff.1 hd).1
      have := h d (List.mem_range.2 hlt)
      rw [show (PT.node ks none).kids = ks from rfl, List.getD_eq_getElem?_getD, hd] at this
      exact elems_ne r _ q (hws q hq) hqn this
theorem restK_nil {r k : Nat} {ks : List PT} {d : Nat} (h : ∀ j, d ≤ j → j < 16 → ks.getD j .nil = .nil) : restK r k ks d = [] := by
  rw [restK, List.flatMap_eq_nil_iff]
  intro j hj
  have hj := List.mem_range'_1.1 hj
  rw [h j hj.1 (by omega), elems_nil]
theorem restK_from (r k : Nat) (ks : List PT) : ∀ d, d ≤ 16 → ∃ A, restK r k ks 0 = A ++ restK r k ks d
  | 0, _ => ⟨[], rfl⟩
  | d + 1, h => by
    obtain ⟨A, hA⟩ := restK_from r k ks d (by omega)
    exact ⟨A ++ elems r (16 * k + d) (ks.getD d .nil), by rw [hA, restK_step r k ks (by omega), List.append_assoc]⟩
theorem last_kid {r k : Nat} {ks : List PT} {d : Nat} {q : PT} (hq : ks[d]? = some q) (hd : d < 16) (hw : PT.wf r q) (hn : q.isNil = false) (h : ∀ j, d < j → j < 16 → ks.getD j .nil = .nil) :
    (elems (r + 1) k (.node ks none)).getLast? = (elems r (16 * k + d) q).getLast? := by
  obtain ⟨A, hA⟩ := restK_from r k ks d (by omega)
  rw [restK_all, hA, restK_step r k ks hd, restK_nil (d := d + 1) (fun j h1 h2 => h j (by omega) h2), List.append_nil, List.getD_eq_getElem?_getD, hq, Option.getD_some]
  rw [List.getLast?_append]
  have := elems_ne r (16 * k + d) q hw hn
  cases hx : (elems r (16 * k + d) q).getLast? with
  | none => exact absurd (List.getLast?_eq_none_iff.1 hx) this
  | some x => rfl
def lastM (p : PT) : ID := match (elems 8 0 p).getLast? with
  | some x => namK x.1
  | none => ⟨0, 0⟩
theorem lastM_some {p : PT} {x : KE} (h : (elems 8 0 p).getLast? = some x) : lastM p = namK x.1 := by unfold lastM; rw [h]
theorem lastM_none {p : PT} (h : elems 8 0 p = []) : lastM p = ⟨0, 0⟩ := by unfold lastM; rw [h]; rfl
theorem elems_leaf (k : Nat) (e : EN) : elems 0 k (.node nils (some e)) = [(k, e)] := rfl
attribute [local irreducible] elems
set_option maxHeartbeats 2000000 in
theorem Last4_c (p : PT) (n : Int) (hw : PT.wf 8 p) : Cv 50 [mapv p n] (idv (lastM p)) := by
  cases p with
  | nil =>
    have : lastM .nil = ⟨0, 0⟩ := lastM_none (elems_nil 8 0)
    rw [this]
    refine Ct.of_vc Tryd.f50 Tryd.func50 rfl rfl fun w H B g0 => ?_
    (repeat (first | refine Spl.t rfl ?_ | refine Spl.f rfl ?_))
    exact FinP.open rfl rfl
  | node ks0 e0 =>
    refine Ct.of_vc Tryd.f50 Tryd.func50 rfl rfl fun w H B g0 => ?_
    (repeat (first | refine Spl.t rfl ?_ | refine Spl.f rfl ?_))
    refine WJ.loopK (V := Nat × PT × Nat) (fun v => [(12, iv v.1), (3, .d v.2.1.d), (4, uv v.2.2)]) (fun _ => []) [] (fun v => 8 - v.1) (fun v => v.1 ≤ 8 ∧ PT.wf (8 - v.1) v.2.1 ∧ v.2.1.isNil = false ∧ v.2.2 < 16 ^ v.1 ∧ (elems (8 - v.1) v.2.2 v.2.1).getLast? = (elems 8 0 (.node ks0 e0)).getLast?) (0, .node ks0 e0, 0) ⟨Nat.zero_le _, hw, rfl, (show (0 : Nat) < 16 ^ 0 by decide), rfl⟩ (by repeat' (first | exact trivial | exact rfl | refine And.intro ?_ ?_)) (by repeat' (first | exact trivial | exact rfl | refine And.intro ?_ ?_)) ?_
    rintro ⟨i, q, k⟩ ⟨hi, hq, hqn, hk, hla⟩
    simp only at hi hq hqn hk hla
    refine Spl.of (fun h1 => ?_) (fun h1 => ?_)
    · have hlt : i < 8 := by have := of_decide_eq_true h1; simp only at this; omega
      obtain ⟨r, hr⟩ : ∃ r, 8 - i = r + 1 := ⟨7 - i, by omega⟩
      have e2 : 8 - (i + 1) = r := by omega
      rw [hr] at hq hla
      rcases hq with rfl | ⟨ks, rfl, hl, hws, hex⟩
      · cases hqn
      · have hk58 : k < 2 ^ 58 := Nat.lt_of_lt_of_le hk (Nat.le_trans (Nat.pow_le_pow_right (by decide) (show i ≤ 8 by omega)) (by decide))
        (repeat (first | refine Spl.t rfl ?_ | refine Spl.f rfl ?_))
        refine WJ.loopK (V := Nat) (fun d => [(5, iv d)]) (fun _ => []) [] (fun d => d) (fun d => d < 16 ∧ ∀ j, d < j → j < 16 → ks.getD j .nil = .nil) 15 ⟨by decide, fun j h1 h2 => by omega⟩ (by repeat' (first | exact trivial | exact rfl | refine And.intro ?_ ?_)) (by repeat' (first | exact trivial | exact rfl | refine And.intro ?_ ?_)) ?_
        intro d ⟨hd, hnil⟩
        obtain ⟨q', hq'⟩ : ∃ q', ks[d]? = some q' := ⟨ks[d]'(by omega), by simp⟩
        have hgd : ks.getD d .nil = q' := by rw [List.getD_eq_getElem?_getD, hq']; rfl
        refine Req.of ⟨by omega, by omega⟩ ?_
        refine DropP.of _ (node_kid hq') (Nat.succ_le_succ (Nat.zero_le _)) ?_
        cases q' with
        | nil =>
          have hd0 : d ≠ 0 := fun e => by
            subst e
            obtain ⟨q, hq, hqn⟩ := hex
            obtain ⟨j, hj⟩ := List.getElem?_of_mem hq
            have hj16 : j < 16 := by rw [← hl]; exact (List.getElem?_eq_some_iff.1 hj).1
            have : ks.getD j .nil = .nil := by
              by_cases h0 : j = 0
              · subst h0; exact hgd
              · exact hnil j (by omega) hj16
            rw [List.getD_eq_getElem?_getD, hj] at this
            simp only [Option.getD_some] at this
            subst this; cases hqn
          (repeat (first | refine Spl.t rfl ?_ | refine Spl.f rfl ?_))
          exact ⟨d - 1, ⟨by omega, fun j h1 h2 => by
            by_cases h : j = d
            · subst h; exact hgd
            · exact hnil j (by omega) h2⟩, by omega, ⟨some_iv (by rw [wrap_id _ (by omega) (by omega)]; omega), trivial⟩, (by repeat' (first | exact trivial | exact rfl | refine And.intro ?_ ?_)), (by repeat' (first | exact trivial | exact rfl | refine And.intro ?_ ?_)), (by repeat' (first | exact trivial | exact rfl | refine And.intro ?_ ?_))⟩
        | node ks' e' =>
          have hwq := hws _ (List.mem_of_getElem? hq')
          have hs := shl4 hk58 hd
          (repeat (first | refine Spl.t rfl ?_ | refine Spl.f rfl ?_))
          refine Req.of ⟨by omega, by omega⟩ ?_
          refine DropP.of _ (node_kid hq') (Nat.succ_le_succ (Nat.zero_le _)) ?_
          refine Req.of (by decide) ?_
          refine ⟨(i + 1, .node ks' e', 16 * k + d), ⟨by simp only; omega, by simp only [e2]; exact hwq, rfl, ?_, ?_⟩, by simp only; omega, ⟨some_iv (wrap_id _ (by omega) (by omega)), rfl, congrArg (fun z : Int => some (AV.d (.v (.int .u64 z)))) hs, trivial⟩, (by repeat' (first | exact trivial | exact rfl | refine And.intro ?_ ?_)), (by repeat' (first | exact trivial | exact rfl | refine And.intro ?_ ?_)), (by repeat' (first | exact trivial | exact rfl | refine And.intro ?_ ?_))⟩
          · simp only; rw [Nat.pow_succ]; omega
          · simp only [e2]; rw [← hla]; exact (last_kid hq' hd hwq rfl hnil).symm
    · have he : i = 8 := by have := of_decide_eq_false h1; simp only at this; omega
      subst he
      rcases hq with rfl | ⟨e, rfl⟩
      · cases hqn
      · have hl : lastM (.node ks0 e0) = namK k := by
          have h0 : elems (8 - 8) k (.node nils (some e)) = [(k, e)] := elems_leaf k e
          rw [h0] at hla
          exact lastM_some hla.symm
        rw [hl]
        (repeat (first | refine Spl.t rfl ?_ | refine Spl.f rfl ?_))
        refine OpJ.callV (named_c k (Nat.lt_of_lt_of_le hk (by decide))) (fun _ _ => rfl) rfl rfl rfl ?_
        exact FinP.open rfl rfl
end Go.Proofs.E
