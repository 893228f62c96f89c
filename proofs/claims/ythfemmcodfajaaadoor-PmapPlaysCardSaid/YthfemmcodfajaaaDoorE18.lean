/- Tries of ids: put, get. -/
import Derived.Test.YthfemmcodfajaaaDoorE17
set_option linter.unusedVariables false
set_option linter.unusedSimpArgs false
open Go Go.Gv
attribute [local irreducible] Go.Gv.WJ Go.Gv.OpJ Go.Gv.QJ Go.Gv.Spl Go.Gv.Req Go.Gv.IdxP Go.Gv.RegP Go.Gv.FinP Go.Gv.QuietP Go.Gv.CellP Go.Gv.CellsP Go.Gv.ArrP Go.Gv.ArrsP Go.Gv.DropP Go.Gv.ByteP Go.Gv.StoreP
set_option maxRecDepth 100000
namespace Go.Proofs.E
inductive PT where
  | nil
  | node (ks : List PT) (e : Option EN)
abbrev nilD : D := .v (.pointer none)
abbrev eD : Option EN → D
  | none => nilD
  | some e => .ptr (enD e)
mutual
def PT.d : PT → D
  | .nil => nilD
  | .node ks e => .ptr (PT.ds ks ++ [eD e])
def PT.ds : List PT → List D
  | [] => []
  | k :: ks => k.d :: PT.ds ks
end
theorem ds_map : ∀ (ks : List PT), PT.ds ks = ks.map PT.d
  | [] => rfl
  | k :: ks => by rw [PT.ds, List.map_cons, ds_map ks]
theorem node_d (ks : List PT) (e : Option EN) : (PT.node ks e).d = .ptr (ks.map PT.d ++ [eD e]) := by rw [PT.d, ds_map]
def nils : List PT := [.nil, .nil, .nil, .nil, .nil, .nil, .nil, .nil, .nil, .nil, .nil, .nil, .nil, .nil, .nil, .nil]
def PT.kids : PT → List PT
  | .nil => nils
  | .node ks _ => ks
def PT.ent : PT → Option EN
  | .nil => none
  | .node _ e => e
def PT.isNil : PT → Bool
  | .nil => true
  | _ => false
/-- The digit of a number at a level: so many digits stand behind it. -/
def dg (k r : Nat) : Nat := k / 16 ^ r % 16
def PT.put : Nat → Nat → EN → PT → PT
  | 0, _, e, p => .node p.kids (some e)
  | r + 1, k, e, p => .node (p.kids.set (dg k r) (PT.put r k e (p.kids.getD (dg k r) .nil))) p.ent
def PT.get : Nat → Nat → PT → Option EN
  | _, _, .nil => none
  | 0, _, .node _ e => e
  | r + 1, k, .node ks _ => PT.get r k (ks.getD (dg k r) .nil)
/-- A part of so many levels. -/
def PT.wf : Nat → PT → Prop
  | 0, p => p = .nil ∨ ∃ e, p = .node nils (some e)
  | r + 1, p => p = .nil ∨ ∃ ks, p = .node ks none ∧ ks.length = 16 ∧ (∀ q, q ∈ ks → PT.wf r q) ∧ ∃ q, q ∈ ks ∧ q.isNil = false
theorem wf_nil : ∀ r, PT.wf r .nil
  | 0 => .inl rfl
  | _ + 1 => .inl rfl
theorem kids_len {r : Nat} {p : PT} (h : PT.wf r p) : p.kids.length = 16 := by
  cases r with
  | zero => rcases h with rfl | ⟨e, rfl⟩ <;> rfl
  | succ r =>
    rcases h with rfl | ⟨ks, rfl, h1, _⟩
    · rfl
    · exact h1
theorem kids_wf {r : Nat} {p : PT} (h : PT.wf (r + 1) p) : ∀ q, q ∈ p.kids → PT.wf r q := by
  rcases h with rfl | ⟨ks, rfl, _, h2, _⟩
  · intro q hq
    have : q = .nil := by simp [PT.kids, nils] at hq; exact hq
    rw [this]; exact wf_nil r
  · exact h2
theorem put_nn (r k : Nat) (e : EN) (p : PT) : (PT.put r k e p).isNil = false := by cases r <;> rfl
theorem dg_lt (k r : Nat) : dg k r < 16 := Nat.mod_lt _ (by decide)
theorem put_wf : ∀ (r k : Nat) (e : EN) (p : PT), PT.wf r p → PT.wf r (PT.put r k e p)
  | 0, k, e, p, h => .inr ⟨e, by rcases h with rfl | ⟨e', rfl⟩ <;> rfl⟩
  | r + 1, k, e, p, h => by
    have hl := kids_len h
    have hw := kids_wf h
    refine .inr ⟨p.kids.set (dg k r) (PT.put r k e (p.kids.getD (dg k r) .nil)), ?_, by rw [List.length_set]; exact hl, fun q hq => ?_, ?_⟩
    · rw [PT.put]
      congr 1
      rcases h with rfl | ⟨ks, rfl, _⟩ <;> rfl
    · rcases List.mem_or_eq_of_mem_set hq with h1 | h1
      · exact hw q h1
      · rw [h1]
        refine put_wf r k e _ ?_
        rw [List.getD_eq_getElem?_getD]
        cases hx : p.kids[dg k r]? with
        | none => exact wf_nil r
        | some q => exact hw q (List.mem_of_getElem? hx)
    · have hx : (p.kids.set (dg k r) (PT.put r k e (p.kids.getD (dg k r) .nil)))[dg k r]? = some (PT.put r k e (p.kids.getD (dg k r) .nil)) := by
        rw [List.getElem?_set, if_pos rfl, if_pos (by rw [hl]; exact dg_lt k r)]
      exact ⟨PT.put r k e (p.kids.getD (dg k r) .nil), List.mem_of_getElem? hx, put_nn r k e _⟩
theorem len16 {α : Type} {l : List α} (h : l.length = 16) : ∃ a0 a1 a2 a3 a4 a5 a6 a7 a8 a9 a10 a11 a12 a13 a14 a15, l = [a0, a1, a2, a3, a4, a5, a6, a7, a8, a9, a10, a11, a12, a13, a14, a15] := by
  match l, h with
  | [a0, a1, a2, a3, a4, a5, a6, a7, a8, a9, a10, a11, a12, a13, a14, a15], _ => exact ⟨_, _, _, _, _, _, _, _, _, _, _, _, _, _, _, _, rfl⟩
theorem Len4_c (r : D) (n : Int) : Cv 31 [.agg [.d r, iv n]] (iv n) := by
  refine Ct.of_vc Tryd.f31 Tryd.func31 rfl rfl fun w H B g0 => ?_
  exact FinP.open rfl rfl
theorem dAll_ds : ∀ (l : List D), dAll (l.map AV.d) = some l
  | [] => rfl
  | x :: l => by simp [dAll, dAll_ds l, dOf]
theorem setL_one {α : Type} (v : α) : ∀ (l : List α) (m : Nat), setL l m [v] = l.set m v
  | _, _ => rfl
theorem digK_dg {k r : Nat} (hr : r + 1 ≤ 8) : digK k (8 - (r + 1)) = dg k r := by
  unfold digK dg
  rw [show 7 - (8 - (r + 1)) = r by omega]
abbrev cellsP (ks : List PT) (e : Option EN) : List AV := ks.map (fun q => AV.d q.d) ++ [.d (eD e)]
theorem cells_get {ks : List PT} {e : Option EN} {m : Nat} {q : PT} (h : ks[m]? = some q) : (cellsP ks e)[0 + 0 + (m : Int).toNat * 1]? = some (.d q.d) := by
  have hm := (List.getElem?_eq_some_iff.1 h).1
  have e1 : 0 + 0 + (m : Int).toNat * 1 = m := by simp
  rw [e1, List.getElem?_append_left (by simpa using hm)]; simp [h]
theorem cells_pub {ks : List PT} {e : Option EN} {m : Nat} (q : PT) (h : m < ks.length) : pubOf (.cells (setL (cellsP ks e) (0 + 0 + (m : Int).toNat * 1) [.d q.d])) = some (.c ((ks.set m q).map PT.d ++ [eD e])) := by
  have e1 : 0 + 0 + (m : Int).toNat * 1 = m := by simp
  have e2 : setL (cellsP ks e) m [.d q.d] = ((ks.set m q).map PT.d ++ [eD e]).map AV.d := by
    show (cellsP ks e).set m (.d q.d) = _
    rw [List.set_append_left _ _ (by simpa using h), List.map_append, List.map_map, List.map_set]
    rfl
  rw [e1, e2]
  simp only [pubOf, dAll_ds]
theorem nils_getD (m : Nat) : nils.getD m .nil = .nil := by
  rw [List.getD_eq_getElem?_getD]
  cases h : nils[m]? with
  | none => rfl
  | some q => have := List.mem_of_getElem? h; simp [nils] at this; exact this
theorem nils_get {m : Nat} (h : m < 16) : nils[m]? = some .nil := by
  cases h2 : nils[m]? with
  | none => rw [List.getElem?_eq_none_iff] at h2; simp [nils] at h2; omega
  | some q => have := List.mem_of_getElem? h2; simp [nils] at this; rw [this]
set_option maxHeartbeats 4000000 in
theorem put_c : ∀ (r k : Nat) (e : EN) (p : PT), r ≤ 8 → k < 2 ^ 63 → PT.wf r p → Cv 51 [.d p.d, uv k, iv ((8 - r : Nat) : Int), env e] (.d (PT.put r k e p).d)
  | 0, k, e, p, hr, hk, hw => by
    rcases hw with rfl | ⟨e', rfl⟩
    · refine Ct.of_vc Tryd.f51 Tryd.func51 rfl rfl fun w H B g0 => ?_
      (repeat (first | refine Spl.t rfl ?_ | refine Spl.f rfl ?_))
      exact FinP.pub 7 rfl rfl (FinP.pub 12 rfl rfl (FinP.open rfl rfl))
    · refine Ct.of_vc Tryd.f51 Tryd.func51 rfl rfl fun w H B g0 => ?_
      (repeat (first | refine Spl.t rfl ?_ | refine Spl.f rfl ?_))
      exact FinP.pub 7 rfl rfl (FinP.pub 12 rfl rfl (FinP.open rfl rfl))
  | r + 1, k, e, p, hr, hk, hw => by
    have hd := digit_c k (8 - (r + 1)) hk (by omega)
    rw [digK_dg hr] at hd
    have ih := fun q (hq : PT.wf r q) => put_c r k e q (by omega) hk hq
    have hlt := dg_lt k r
    have e8 : ¬ ((8 - (r + 1) : Nat) : Int) = 8 := by omega
    have e9 : IntKind.i64.wrap (((8 - (r + 1) : Nat) : Int) + 1) = ((8 - r : Nat) : Int) := by rw [wrap_id _ (by omega) (by omega)]; omega
    rcases hw with rfl | ⟨ks, rfl, hl, hws, _⟩
    · refine Ct.of_vc Tryd.f51 Tryd.func51 rfl rfl fun w H B g0 => ?_
      (repeat (first | refine Spl.t rfl ?_ | refine Spl.f rfl ?_))
      refine Spl.f (decide_eq_false e8) ?_
      refine OpJ.callV hd (fun _ _ => rfl) rfl rfl rfl ?_
      refine RegP.mix 16 rfl (by decide +kernel) ?_
      refine Req.of ⟨by omega, by omega⟩ ?_
      refine CellP.of (.d PT.nil.d) (cells_get (ks := nils) (e := none) (nils_get hlt)) ?_
      refine QuietP.of (QJ.call (ih .nil (wf_nil r)) (fun _ _ => rfl) (by rw [← e9]; rfl) rfl) ?_
      refine Req.of ⟨by omega, by omega⟩ ?_
      refine Req.of (show 0 + 0 + ((dg k r : Nat) : Int).toNat * 1 + 1 ≤ 17 by simp; omega) ?_
      refine FinP.pub 12 rfl (cells_pub (ks := nils) (e := none) (PT.put r k e .nil) hlt) (FinP.open rfl ?_)
      rw [PT.put, show PT.nil.kids = nils from rfl, nils_getD, node_d]; rfl
    · have hlk : dg k r < ks.length := by omega
      obtain ⟨q, hq⟩ : ∃ q, ks[dg k r]? = some q := ⟨ks[dg k r], by simp [hlk]⟩
      have hqw := hws q (List.mem_of_getElem? hq)
      have hput : PT.put (r + 1) k e (.node ks none) = .node (ks.set (dg k r) (PT.put r k e q)) none := by
        rw [PT.put, show (PT.node ks none).kids = ks from rfl, List.getD_eq_getElem?_getD, hq]; rfl
      rw [hput, node_d, node_d]
      obtain ⟨a0, a1, a2, a3, a4, a5, a6, a7, a8, a9, a10, a11, a12, a13, a14, a15, rfl⟩ := len16 hl
      refine Ct.of_vc Tryd.f51 Tryd.func51 rfl rfl fun w H B g0 => ?_
      (repeat (first | refine Spl.t rfl ?_ | refine Spl.f rfl ?_))
      refine Spl.f (decide_eq_false e8) ?_
      refine OpJ.callV hd (fun _ _ => rfl) rfl rfl rfl ?_
      refine RegP.mix 16 rfl (by decide +kernel) ?_
      refine Req.of ⟨by omega, by omega⟩ ?_
      refine CellP.of (.d q.d) (cells_get (ks := [a0, a1, a2, a3, a4, a5, a6, a7, a8, a9, a10, a11, a12, a13, a14, a15]) (e := none) hq) ?_
      refine QuietP.of (QJ.call (ih q hqw) (fun _ _ => rfl) (by rw [← e9]; rfl) rfl) ?_
      refine Req.of ⟨by omega, by omega⟩ ?_
      refine Req.of (show 0 + 0 + ((dg k r : Nat) : Int).toNat * 1 + 1 ≤ 17 by simp; omega) ?_
      refine FinP.pub 12 rfl (cells_pub (ks := [a0, a1, a2, a3, a4, a5, a6, a7, a8, a9, a10, a11, a12, a13, a14, a15]) (e := none) (PT.put r k e q) hlt) (FinP.open rfl ?_)
      rfl
end Go.Proofs.E
