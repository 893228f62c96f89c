/- Laws that the claim's text stands on: A replica: Do, Look, New, the kinds' words, the example; the document's sum; A replica, as the document has it; the example; A replica: the law's example; the law ReplicaPlays; A replica: the law ReplicaPlays. -/
import Derived.Test.YtcpmcadgknfpjaaGreatDoorM1
import Derived.Test.YtcpmcadgknfpjaaGreatDoorM2
import Derived.Test.YtcpmcadgknfpjaaGreatDoorM3
import Derived.Test.YtcpmcadgknfpjaaGreatDoorDShelf
import Derived.Test.YtcpmcadgknfpjaaGreatDoorM4
import Derived.Test.YtcpmcadgknfpjaaGreatDoorM5
import Derived.Test.YtcpmcadgknfpjaaGreatDoorM6
import Derived.Test.YtcpmcadgknfpjaaGreatDoorM7
import Derived.Test.YtcpmcadgknfpjaaGreatDoorM8
set_option linter.unusedVariables false
set_option linter.unusedSimpArgs false
section
open Go Go.Gv
attribute [local irreducible] Go.Gv.WJ Go.Gv.OpJ Go.Gv.QJ Go.Gv.Spl Go.Gv.Req Go.Gv.IdxP Go.Gv.RegP Go.Gv.FinP Go.Gv.CellP Go.Gv.CellsP Go.Gv.ArrP Go.Gv.ArrsP Go.Gv.DropP Go.Gv.ByteP Go.Gv.StoreP
set_option maxRecDepth 100000
namespace Go.Proofs.E
attribute [local irreducible] elems
theorem RDo_c {s : SS} {l R : List OP} (h : okV ⟨s, l, R, []⟩) (site : Int) (cl : Bool) (c : CALL) :
    Cv 41 [rpv site s l R cl, callv c] (.tup [rpv site (chgR site ⟨s, l, R, []⟩ cl c).1.s (chgR site ⟨s, l, R, []⟩ cl c).1.l (chgR site ⟨s, l, R, []⟩ cl c).1.R (chgR site ⟨s, l, R, []⟩ cl c).2.1, rsv (chgR site ⟨s, l, R, []⟩ cl c).2.2]) := by
  have hw := Changes12_c h site cl c
  generalize chgR site ⟨s, l, R, []⟩ cl c = p at hw ⊢
  obtain ⟨⟨v1, v2, v3, v4⟩, cl', x⟩ := p
  simp only at hw ⊢
  refine Ct.of_vc Tryz.f41 Tryz.func41 rfl rfl fun w H B g0 => ?_
  refine OpJ.callV hw (fun _ _ => rfl) rfl rfl rfl ?_
  (repeat (first | refine Spl.t rfl ?_ | refine Spl.f rfl ?_))
  refine RegP.mixS 4 [4, 5] rfl (by decide +kernel) ?_
  exact FinP.open rfl rfl
theorem RLook_c {s : SS} {l R : List OP} (h : okV ⟨s, l, R, []⟩) (site : Int) (cl : Bool) (c : CALL) :
    Cv 42 [rpv site s l R cl, callv c] (rsv (chgR site ⟨s, l, R, []⟩ cl c).2.2) := by
  have hw := RDo_c h site cl c
  generalize chgR site ⟨s, l, R, []⟩ cl c = p at hw ⊢
  obtain ⟨⟨v1, v2, v3, v4⟩, cl', x⟩ := p
  simp only at hw ⊢
  refine Ct.of_vc Tryz.f42 Tryz.func42 rfl rfl fun w H B g0 => ?_
  refine OpJ.callV hw (fun _ _ => rfl) rfl rfl rfl ?_
  (repeat (first | refine Spl.t rfl ?_ | refine Spl.f rfl ?_))
  exact FinP.open rfl rfl
theorem RVersion_c (site : Int) (s : SS) (l R : List OP) (cl : Bool) : Cv 51 [rpv site s l R cl] (vv s l R) := by
  refine Ct.of_vc Tryz.f51 Tryz.func51 rfl rfl fun w H B g0 => ?_
  exact FinP.open rfl rfl
theorem nilR {γ : Ids} {H : HF} {u : Value} {t p : D} {k0 n m k : Int} {z1 z2 z3 : AV} (r : Rep γ H (.agg [iv k0, .d t, .d p, iv n, .d (.v (.slice none 0 0)), iv m, iv k, z1, z2, z3]) u) : Rep γ H (.agg [iv k0, .d t, .d p, iv n, .d (.sl 6 []), iv m, iv k, z1, z2, z3]) u := rep_agg_set (j := 4) r rfl fun _ h => nil_sl 6 h
theorem New_c (site : Int) : Cv 40 [iv site] (.tup [rpv (if site < 1 ∨ site > 1000 then 0 else site) vA0.s vA0.l vA0.R false, iv (if site < 1 ∨ site > 1000 then 2 else 0)]) := by
  by_cases c1 : site < 1 ∨ site > 1000
  · rw [if_pos c1, if_pos c1]
    refine Ct.of_vc Tryz.f40 Tryz.func40 rfl rfl fun w H B g0 => ?_
    refine Spl.of (fun h1 => ?_) (fun h1 => ?_)
    · (repeat (first | refine Spl.t rfl ?_ | refine Spl.f rfl ?_))
      refine FinP.viewTup 0 rfl (fun _ _ _ h => nilR h) ?_
      exact FinP.open rfl rfl
    · (repeat (first | refine Spl.t rfl ?_ | refine Spl.f rfl ?_))
      refine Spl.t (decide_eq_true (by have := of_decide_eq_false h1; omega)) ?_
      (repeat (first | refine Spl.t rfl ?_ | refine Spl.f rfl ?_))
      refine FinP.viewTup 0 rfl (fun _ _ _ h => nilR h) ?_
      exact FinP.open rfl rfl
  · rw [if_neg c1, if_neg c1]
    refine Ct.of_vc Tryz.f40 Tryz.func40 rfl rfl fun w H B g0 => ?_
    refine Spl.f (decide_eq_false (by omega)) ?_
    (repeat (first | refine Spl.t rfl ?_ | refine Spl.f rfl ?_))
    refine Spl.f (decide_eq_false (by omega)) ?_
    (repeat (first | refine Spl.t rfl ?_ | refine Spl.f rfl ?_))
    refine FinP.viewTup 0 rfl (fun _ _ _ h => nilR h) ?_
    exact FinP.open rfl rfl
def wordK (k : Int) : List UInt8 := if k < 0 ∨ k > 8 then [110, 111, 110, 101] else match k.toNat with
  | 0 => [105, 110, 115, 101, 114, 116]
  | 1 => [100, 101, 108, 101, 116, 101]
  | 2 => [97, 112, 112, 108, 121]
  | 3 => [114, 101, 97, 100]
  | 4 => [108, 101, 110]
  | 5 => [109, 97, 114, 107]
  | 6 => [119, 104, 101, 114, 101]
  | 7 => [115, 110, 97, 112, 115, 104, 111, 116]
  | _ => [99, 108, 111, 115, 101]
theorem KString_c (k : Int) : Cv 52 [iv k] (sv (wordK k)) := by
  by_cases c1 : k < 0 ∨ k > 8
  · rw [show wordK k = [110, 111, 110, 101] from if_pos c1]
    refine Ct.of_vc Tryz.f52 Tryz.func52 rfl rfl fun w H B g0 => ?_
    (repeat (first | refine Spl.t rfl ?_ | refine Spl.f rfl ?_))
    refine Spl.of (fun h1 => ?_) (fun h1 => ?_)
    · (repeat (first | refine Spl.t rfl ?_ | refine Spl.f rfl ?_))
      exact FinP.open rfl rfl
    · (repeat (first | refine Spl.t rfl ?_ | refine Spl.f rfl ?_))
      refine Spl.t (decide_eq_true (by have := of_decide_eq_false h1; omega)) ?_
      (repeat (first | refine Spl.t rfl ?_ | refine Spl.f rfl ?_))
      exact FinP.open rfl rfl
  · obtain rfl | rfl | rfl | rfl | rfl | rfl | rfl | rfl | rfl : k = 0 ∨ k = 1 ∨ k = 2 ∨ k = 3 ∨ k = 4 ∨ k = 5 ∨ k = 6 ∨ k = 7 ∨ k = 8 := by omega
    all_goals clear c1
    all_goals (refine Ct.of_vc Tryz.f52 Tryz.func52 rfl rfl fun w H B g0 => ?_)
    all_goals (repeat (first | refine Spl.t rfl ?_ | refine Spl.f rfl ?_))
    · refine Req.of ?_ ?_
      · decide
      refine CellP.of (sv [105, 110, 115, 101, 114, 116]) ?_ ?_
      · rfl
      exact FinP.open rfl rfl
    · refine Req.of ?_ ?_
      · decide
      refine CellP.of (sv [100, 101, 108, 101, 116, 101]) ?_ ?_
      · rfl
      exact FinP.open rfl rfl
    · refine Req.of ?_ ?_
      · decide
      refine CellP.of (sv [97, 112, 112, 108, 121]) ?_ ?_
      · rfl
      exact FinP.open rfl rfl
    · refine Req.of ?_ ?_
      · decide
      refine CellP.of (sv [114, 101, 97, 100]) ?_ ?_
      · rfl
      exact FinP.open rfl rfl
    · refine Req.of ?_ ?_
      · decide
      refine CellP.of (sv [108, 101, 110]) ?_ ?_
      · rfl
      exact FinP.open rfl rfl
    · refine Req.of ?_ ?_
      · decide
      refine CellP.of (sv [109, 97, 114, 107]) ?_ ?_
      · rfl
      exact FinP.open rfl rfl
    · refine Req.of ?_ ?_
      · decide
      refine CellP.of (sv [119, 104, 101, 114, 101]) ?_ ?_
      · rfl
      exact FinP.open rfl rfl
    · refine Req.of ?_ ?_
      · decide
      refine CellP.of (sv [115, 110, 97, 112, 115, 104, 111, 116]) ?_ ?_
      · rfl
      exact FinP.open rfl rfl
    · refine Req.of ?_ ?_
      · decide
      refine CellP.of (sv [99, 108, 111, 115, 101]) ?_ ?_
      · rfl
      exact FinP.open rfl rfl
theorem Word_c (k : Int) : Cv 53 [iv k] (sv (wordK k)) := by
  by_cases c1 : k < 0 ∨ k > 8
  · rw [show wordK k = [110, 111, 110, 101] from if_pos c1]
    refine Ct.of_vc Tryz.f53 Tryz.func53 rfl rfl fun w H B g0 => ?_
    (repeat (first | refine Spl.t rfl ?_ | refine Spl.f rfl ?_))
    refine Spl.of (fun h1 => ?_) (fun h1 => ?_)
    · (repeat (first | refine Spl.t rfl ?_ | refine Spl.f rfl ?_))
      exact FinP.open rfl rfl
    · (repeat (first | refine Spl.t rfl ?_ | refine Spl.f rfl ?_))
      refine Spl.t (decide_eq_true (by have := of_decide_eq_false h1; omega)) ?_
      (repeat (first | refine Spl.t rfl ?_ | refine Spl.f rfl ?_))
      exact FinP.open rfl rfl
  · obtain rfl | rfl | rfl | rfl | rfl | rfl | rfl | rfl | rfl : k = 0 ∨ k = 1 ∨ k = 2 ∨ k = 3 ∨ k = 4 ∨ k = 5 ∨ k = 6 ∨ k = 7 ∨ k = 8 := by omega
    all_goals clear c1
    all_goals (refine Ct.of_vc Tryz.f53 Tryz.func53 rfl rfl fun w H B g0 => ?_)
    all_goals (repeat (first | refine Spl.t rfl ?_ | refine Spl.f rfl ?_))
    · refine IdxP.of [.v (.string ⟨⟨[105, 110, 115, 101, 114, 116]⟩⟩)] ?_ ?_ ?_
      · decide
      · rfl
      exact FinP.open rfl rfl
    · refine IdxP.of [.v (.string ⟨⟨[100, 101, 108, 101, 116, 101]⟩⟩)] ?_ ?_ ?_
      · decide
      · rfl
      exact FinP.open rfl rfl
    · refine IdxP.of [.v (.string ⟨⟨[97, 112, 112, 108, 121]⟩⟩)] ?_ ?_ ?_
      · decide
      · rfl
      exact FinP.open rfl rfl
    · refine IdxP.of [.v (.string ⟨⟨[114, 101, 97, 100]⟩⟩)] ?_ ?_ ?_
      · decide
      · rfl
      exact FinP.open rfl rfl
    · refine IdxP.of [.v (.string ⟨⟨[108, 101, 110]⟩⟩)] ?_ ?_ ?_
      · decide
      · rfl
      exact FinP.open rfl rfl
    · refine IdxP.of [.v (.string ⟨⟨[109, 97, 114, 107]⟩⟩)] ?_ ?_ ?_
      · decide
      · rfl
      exact FinP.open rfl rfl
    · refine IdxP.of [.v (.string ⟨⟨[119, 104, 101, 114, 101]⟩⟩)] ?_ ?_ ?_
      · decide
      · rfl
      exact FinP.open rfl rfl
    · refine IdxP.of [.v (.string ⟨⟨[115, 110, 97, 112, 115, 104, 111, 116]⟩⟩)] ?_ ?_ ?_
      · decide
      · rfl
      exact FinP.open rfl rfl
    · refine IdxP.of [.v (.string ⟨⟨[99, 108, 111, 115, 101]⟩⟩)] ?_ ?_ ?_
      · decide
      · rfl
      exact FinP.open rfl rfl
set_option maxHeartbeats 1000000 in
theorem Of12_c (c : CALL) : Cv 47 [callv c] (callv c) := by
  refine Ct.of_vc Tryz.f47 Tryz.func47 rfl rfl fun w H B g0 => ?_
  refine RegP.of rfl (by decide +kernel) ?_
  refine QuietP.of (QJ.call (Of5_c c.o) (fun _ _ => rfl) rfl rfl) ?_
  refine QuietP.of (QJ.call (Of_c c.a) (fun _ _ => rfl) rfl rfl) ?_
  exact FinP.open rfl rfl
theorem Said12_c (x : RS) : Cv 48 [rsv x] (rsv x) := by
  refine Ct.of_vc Tryz.f48 Tryz.func48 rfl rfl fun w H B g0 => ?_
  exact FinP.open rfl rfl
theorem Sum_c {l : List OP} (h : Dn l) (R : List OP) : Cv 84 [rvv l R] (sv (textT (sumV l))) := by
  have hrs := RText2_c (sumV l) (sum_ok h)
  have hl2 := h.len2
  have hall : l.take l.length = l := List.take_length
  refine Ct.of_wv Tryz.f84 Tryz.func84 rfl rfl fun w H B g0 => ?_
  (try refine WJ.cut ?_)
  (first | refine Sq.go ?_ | refine vL_nil (Sq.go ?_) | skip)
  (try refine WJ.cut ?_)
  (first | refine Sq.go ?_ | refine vL_nil (Sq.go ?_) | skip)
  (try refine WJ.cut ?_)
  (first | refine Sq.go ?_ | refine vL_nil (Sq.go ?_) | skip)
  (try refine WJ.cut ?_)
  refine WJ.loopK (V := Nat) (fun i => [(4, iv i)]) (fun i => [(3, .cells [iv (sumV (l.take i)).n, iv (sumV (l.take i)).a, iv (sumV (l.take i)).b, iv (sumV (l.take i)).c, iv (sumV (l.take i)).d])]) [3] (fun i => l.length - i) (fun i => i ≤ l.length) 0 (by omega) (by repeat' (first | exact trivial | exact rfl | refine And.intro ?_ ?_)) (by repeat' (first | exact trivial | exact rfl | refine And.intro ?_ ?_)) ?_
  intro i hi
  refine Spl.of (fun h1 => ?_) (fun h1 => ?_)
  · have hlt : i < l.length := by have := of_decide_eq_true h1; simp at this; omega
    have hx : l[i]? = some l[i] := by simp
    obtain ⟨t1, t2⟩ := sumV_take h hx
    have hok := sum_ok (Dn_take h i)
    generalize l[i] = x at hx t1 t2
    (repeat (first | refine Spl.t rfl ?_ | refine Spl.f rfl ?_))
    refine IdxP.of (opD x) (by omega) (by simp [hx]) ?_
    (repeat (first | refine Spl.t rfl ?_ | refine Spl.f rfl ?_))
    refine Spl.of (fun h2 => ?_) (fun h2 => ?_)
    · obtain ⟨t3, t4, t5⟩ := t1 (of_decide_eq_true h2)
      have hput := RPut2_c (sumV (l.take i)) x.i hok t5 t4
      rw [← t3] at hput
      (repeat (first | refine Spl.t rfl ?_ | refine Spl.f rfl ?_))
      refine RegP.mixF 9 rfl (by decide +kernel) ?_
      refine IdxP.of (opD x) (by omega) (by simp [hx]) ?_
      (repeat (first | refine Spl.t rfl ?_ | refine Spl.f rfl ?_))
      refine QuietP.of (QJ.call hput (fun _ _ => rfl) rfl rfl) ?_
      (repeat' (first | exact trivial | refine And.intro ?_ ?_))
      all_goals exact ⟨i + 1, by omega, by omega, ⟨some_iv (wrap_id _ (by omega) (by omega)), trivial⟩, (by repeat' (first | exact trivial | exact rfl | refine And.intro ?_ ?_)), (by repeat' (first | exact trivial | exact rfl | refine And.intro ?_ ?_)), (by repeat' (first | exact trivial | exact rfl | refine And.intro ?_ ?_))⟩
    · have t3 := t2 (of_decide_eq_false h2)
      (repeat (first | refine Spl.t rfl ?_ | refine Spl.f rfl ?_))
      exact ⟨i + 1, by omega, by omega, ⟨some_iv (wrap_id _ (by omega) (by omega)), trivial⟩, (by repeat' (first | exact trivial | exact rfl | refine And.intro ?_ ?_)), ⟨by rw [t3]; rfl, trivial⟩, (by repeat' (first | exact trivial | exact rfl | refine And.intro ?_ ?_))⟩
  have hi2 : i = l.length := by have := of_decide_eq_false h1; simp at this; omega
  subst hi2
  rw [hall]
  (repeat (first | refine Spl.t rfl ?_ | refine Spl.f rfl ?_))
  (first | refine Sq.go ?_ | refine vL_nil (Sq.go ?_) | skip)
  (try refine vc_sound _ _ _ _ ?_)
  refine OpJ.callV hrs (fun _ _ => rfl) rfl rfl rfl ?_
  (repeat (first | refine Spl.t rfl ?_ | refine Spl.f rfl ?_))
  exact FinP.open rfl rfl
end Go.Proofs.E
end
section
open Go Go.Gv
attribute [local irreducible] Go.Gv.WJ Go.Gv.OpJ Go.Gv.QJ Go.Gv.Spl Go.Gv.Req Go.Gv.IdxP Go.Gv.RegP Go.Gv.FinP Go.Gv.CellP Go.Gv.CellsP Go.Gv.ArrP Go.Gv.ArrsP Go.Gv.DropP Go.Gv.ByteP Go.Gv.StoreP
set_option maxRecDepth 100000
namespace Go.Proofs.E
attribute [local irreducible] elems
abbrev rmw (site : Int) (l R : List OP) (cl : Bool) : AV := .agg [iv site, .d (.sl 6 (l.map opD)), .d (.sl 6 (R.map opD)), bv cl]
abbrev rchv (site : Int) (v : VS) (cl : Bool) (x : RS) : AV := .tup [rmw site v.l v.R cl, rsv x, .d (chs v.out)]
set_option maxHeartbeats 2000000 in
theorem RefDo_c {s : SS} {l R : List OP} (h : okV ⟨s, l, R, []⟩) (site : Int) (cl : Bool) (c : CALL) (hat : c.at_ ≤ 9223372036854775807) :
    Cv 46 [rmw site l R cl, callv c] (rchv site (chgR site ⟨s, l, R, []⟩ cl c).1 (chgR site ⟨s, l, R, []⟩ cl c).2.1 (chgR site ⟨s, l, R, []⟩ cl c).2.2) := by
  have his := h.is
  simp only at his
  have hR := h.len
  simp only at hR
  refine Ct.of_wv Tryz.f46 Tryz.func46 rfl rfl fun w H B g0 => ?_
  (try refine WJ.cut ?_)
  (first | refine Sq.go ?_ | refine vL_nil (Sq.go ?_) | skip)
  (try refine WJ.cut ?_)
  by_cases c1 : c.k < 0 ∨ c.k > 8
  · have eD : chgR site ⟨s, l, R, []⟩ cl c = (⟨s, l, R, []⟩, cl, ⟨1, 0, []⟩) := if_pos c1
    rw [eD]
    refine Spl.of (fun h1 => ?_) (fun h1 => ?_)
    · (repeat (first | refine Spl.t rfl ?_ | refine Spl.f rfl ?_))
      refine .out (by simp) ?_
      refine FinP.viewTup 2 rfl (fun _ _ _ h => nil_sl 6 h) ?_
      exact FinP.open rfl rfl
    · (repeat (first | refine Spl.t rfl ?_ | refine Spl.f rfl ?_))
      refine Spl.t (decide_eq_true (by have := of_decide_eq_false h1; omega)) ?_
      (repeat (first | refine Spl.t rfl ?_ | refine Spl.f rfl ?_))
      refine .out (by simp) ?_
      refine FinP.viewTup 2 rfl (fun _ _ _ h => nil_sl 6 h) ?_
      exact FinP.open rfl rfl
  refine Spl.f (decide_eq_false (by omega)) ?_
  (repeat (first | refine Spl.t rfl ?_ | refine Spl.f rfl ?_))
  refine Spl.f (decide_eq_false (by omega)) ?_
  (repeat (first | refine Spl.t rfl ?_ | refine Spl.f rfl ?_))
  (first | refine Sq.go ?_ | refine vL_nil (Sq.go ?_) | skip)
  (try refine WJ.cut ?_)
  by_cases c2 : (cl || decide (site = 0)) = true
  · have eD : chgR site ⟨s, l, R, []⟩ cl c = (⟨s, l, R, []⟩, cl, ⟨9, 0, []⟩) := (if_neg c1).trans (if_pos c2)
    rw [eD]
    cases cl with
    | true =>
      (repeat (first | refine Spl.t rfl ?_ | refine Spl.f rfl ?_))
      refine .out (by simp) ?_
      refine FinP.viewTup 2 rfl (fun _ _ _ h => nil_sl 6 h) ?_
      exact FinP.open rfl rfl
    | false =>
      (repeat (first | refine Spl.t rfl ?_ | refine Spl.f rfl ?_))
      refine Spl.t (decide_eq_true (by simpa using c2)) ?_
      (repeat (first | refine Spl.t rfl ?_ | refine Spl.f rfl ?_))
      refine .out (by simp) ?_
      refine FinP.viewTup 2 rfl (fun _ _ _ h => nil_sl 6 h) ?_
      exact FinP.open rfl rfl
  obtain rfl : cl = false := by cases cl with | true => simp at c2 | false => rfl
  have hs0 : site ≠ 0 := by simpa using c2
  (repeat (first | refine Spl.t rfl ?_ | refine Spl.f rfl ?_))
  refine Spl.f (decide_eq_false hs0) ?_
  (repeat (first | refine Spl.t rfl ?_ | refine Spl.f rfl ?_))
  (first | refine Sq.go ?_ | refine vL_nil (Sq.go ?_) | skip)
  (try refine WJ.cut ?_)
  (first | refine Sq.go ?_ | refine vL_nil (Sq.go ?_) | skip)
  (try refine WJ.cut ?_)
  by_cases k0 : c.k = 0
  · refine Spl.t (decide_eq_true k0) ?_
    have eD : chgR site ⟨s, l, R, []⟩ false c = ((wrI ⟨s, l, R, []⟩ (insVT ⟨s, l, R, []⟩ site c.at_ c.ch)).1, false, (wrI ⟨s, l, R, []⟩ (insVT ⟨s, l, R, []⟩ site c.at_ c.ch)).2) := by rw [show chgR site ⟨s, l, R, []⟩ false c = ((wrR site ⟨s, l, R, []⟩ c).1, false, (wrR site ⟨s, l, R, []⟩ c).2) from (if_neg c1).trans ((if_neg c2).trans ((if_neg (by omega)).trans ((if_pos (by omega))))), show wrR site ⟨s, l, R, []⟩ c = wrI ⟨s, l, R, []⟩ (insVT ⟨s, l, R, []⟩ site c.at_ c.ch) from if_pos k0]
    have hp := RInsert_c his R (by omega) h.ck site c.at_ c.ch
    rw [eD]
    generalize insVT ⟨s, l, R, []⟩ site c.at_ c.ch = p at hp ⊢
    obtain ⟨v, o, e⟩ := p
    unfold resR at hp
    unfold wrI
    simp only at hp ⊢
    have hs := Text5_c o
    have hlo : (v.l.map opD).length = v.l.length := List.length_map ..
    (repeat (first | refine Spl.t rfl ?_ | refine Spl.f rfl ?_))
    refine OpJ.callV hp (fun _ _ => rfl) rfl rfl rfl ?_
    (repeat (first | refine Spl.t rfl ?_ | refine Spl.f rfl ?_))
    refine Spl.of (fun h1 => ?_) (fun h1 => ?_)
    · have h1 : e ≠ 0 := by simpa using h1
      rw [if_pos h1]
      (repeat (first | refine Spl.t rfl ?_ | refine Spl.f rfl ?_))
      refine .out (by simp) ?_
      refine FinP.viewTup 2 rfl (fun _ _ _ h => nil_sl 6 h) ?_
      exact FinP.open rfl rfl
    · have h1 : ¬ e ≠ 0 := by simpa using h1
      rw [if_neg h1]
      (repeat (first | refine Spl.t rfl ?_ | refine Spl.f rfl ?_))
      refine RegP.mixS 11 [4, 5] rfl (by decide +kernel) ?_
      refine QuietP.of (QJ.call hs (fun _ _ => rfl) rfl rfl) ?_
      (repeat (first | refine Spl.t rfl ?_ | refine Spl.f rfl ?_))
      refine .out (by simp) ?_
      rw [hlo]
      exact FinP.open rfl rfl
  refine Spl.f (decide_eq_false k0) ?_
  (repeat (first | refine Spl.t rfl ?_ | refine Spl.f rfl ?_))
  by_cases k1 : c.k = 1
  · refine Spl.t (decide_eq_true k1) ?_
    have eD : chgR site ⟨s, l, R, []⟩ false c = ((wrI ⟨s, l, R, []⟩ (delVT ⟨s, l, R, []⟩ c.at_)).1, false, (wrI ⟨s, l, R, []⟩ (delVT ⟨s, l, R, []⟩ c.at_)).2) := by rw [show chgR site ⟨s, l, R, []⟩ false c = ((wrR site ⟨s, l, R, []⟩ c).1, false, (wrR site ⟨s, l, R, []⟩ c).2) from (if_neg c1).trans ((if_neg c2).trans ((if_neg (by omega)).trans ((if_pos (by omega))))), show wrR site ⟨s, l, R, []⟩ c = wrI ⟨s, l, R, []⟩ (delVT ⟨s, l, R, []⟩ c.at_) from (if_neg k0).trans (if_pos k1)]
    have hp := RDelete_c his R (by omega) c.at_ hat
    rw [eD]
    generalize delVT ⟨s, l, R, []⟩ c.at_ = p at hp ⊢
    obtain ⟨v, o, e⟩ := p
    unfold resR at hp
    unfold wrI
    simp only at hp ⊢
    have hs := Text5_c o
    have hlo : (v.l.map opD).length = v.l.length := List.length_map ..
    (repeat (first | refine Spl.t rfl ?_ | refine Spl.f rfl ?_))
    refine OpJ.callV hp (fun _ _ => rfl) rfl rfl rfl ?_
    (repeat (first | refine Spl.t rfl ?_ | refine Spl.f rfl ?_))
    refine Spl.of (fun h1 => ?_) (fun h1 => ?_)
    · have h1 : e ≠ 0 := by simpa using h1
      rw [if_pos h1]
      (repeat (first | refine Spl.t rfl ?_ | refine Spl.f rfl ?_))
      refine .out (by simp) ?_
      refine FinP.viewTup 2 rfl (fun _ _ _ h => nil_sl 6 h) ?_
      exact FinP.open rfl rfl
    · have h1 : ¬ e ≠ 0 := by simpa using h1
      rw [if_neg h1]
      (repeat (first | refine Spl.t rfl ?_ | refine Spl.f rfl ?_))
      refine RegP.mixS 11 [4, 5] rfl (by decide +kernel) ?_
      refine QuietP.of (QJ.call hs (fun _ _ => rfl) rfl rfl) ?_
      (repeat (first | refine Spl.t rfl ?_ | refine Spl.f rfl ?_))
      refine .out (by simp) ?_
      rw [hlo]
      exact FinP.open rfl rfl
  refine Spl.f (decide_eq_false k1) ?_
  (repeat (first | refine Spl.t rfl ?_ | refine Spl.f rfl ?_))
  by_cases k2 : c.k = 2
  · refine Spl.t (decide_eq_true k2) ?_
    have eD : chgR site ⟨s, l, R, []⟩ false c = ((wrR site ⟨s, l, R, []⟩ c).1, false, (wrR site ⟨s, l, R, []⟩ c).2) := (if_neg c1).trans ((if_neg c2).trans ((if_neg (by omega)).trans ((if_pos (by omega)))))
    have eW : wrR site ⟨s, l, R, []⟩ c = if remE ⟨s, l, R, []⟩ c.o ≠ 0 then (⟨s, l, R, []⟩, ⟨remE ⟨s, l, R, []⟩ c.o, 0, []⟩) else (remV ⟨s, l, R, []⟩ c.o, ⟨0, (remV ⟨s, l, R, []⟩ c.o).out.length, []⟩) := (if_neg k0).trans (if_neg k1)
    have hp := RRemote_c his R [] c.o (by omega)
    rw [eD, eW]
    generalize remE ⟨s, l, R, []⟩ c.o = e at hp ⊢
    generalize remV ⟨s, l, R, []⟩ c.o = v at hp ⊢
    obtain ⟨vs1, vl, vR, vo⟩ := v
    simp only at hp ⊢
    have hlo : (vo.map chD).length = vo.length := List.length_map ..
    (repeat (first | refine Spl.t rfl ?_ | refine Spl.f rfl ?_))
    refine OpJ.callV hp (fun _ _ => rfl) rfl rfl rfl ?_
    (repeat (first | refine Spl.t rfl ?_ | refine Spl.f rfl ?_))
    refine Spl.of (fun h1 => ?_) (fun h1 => ?_)
    · have h1 : e ≠ 0 := by simpa using h1
      rw [if_pos h1]
      (repeat (first | refine Spl.t rfl ?_ | refine Spl.f rfl ?_))
      refine .out (by simp) ?_
      refine FinP.viewTup 2 rfl (fun _ _ _ h => nil_sl 6 h) ?_
      exact FinP.open rfl rfl
    · have h1 : ¬ e ≠ 0 := by simpa using h1
      rw [if_neg h1]
      (repeat (first | refine Spl.t rfl ?_ | refine Spl.f rfl ?_))
      refine .out (by simp) ?_
      rw [hlo]
      exact FinP.open rfl rfl
  refine Spl.f (decide_eq_false k2) ?_
  (repeat (first | refine Spl.t rfl ?_ | refine Spl.f rfl ?_))
  by_cases k3 : c.k = 3
  · refine Spl.t (decide_eq_true k3) ?_
    have eD : chgR site ⟨s, l, R, []⟩ false c = (⟨s, l, R, []⟩, false, lookC l c) := (if_neg c1).trans ((if_neg c2).trans ((if_neg (by omega)).trans ((if_neg (by omega)))))
    have eL : lookC l c = ⟨0, 0, byt (txtZ (rowE l))⟩ := (if_pos k3)
    rw [eD, eL]
    have hrt := RText8_c his.dn R
    (repeat (first | refine Spl.t rfl ?_ | refine Spl.f rfl ?_))
    refine RegP.mixS 8 [4, 5] rfl (by decide +kernel) ?_
    refine QuietP.of (QJ.call hrt (fun _ _ => rfl) rfl rfl) ?_
    (repeat (first | refine Spl.t rfl ?_ | refine Spl.f rfl ?_))
    refine .out (by simp) ?_
    refine FinP.viewTup 2 rfl (fun _ _ _ h => nil_sl 6 h) ?_
    exact FinP.open rfl rfl
  refine Spl.f (decide_eq_false k3) ?_
  (repeat (first | refine Spl.t rfl ?_ | refine Spl.f rfl ?_))
  by_cases k4 : c.k = 4
  · refine Spl.t (decide_eq_true k4) ?_
    have eD : chgR site ⟨s, l, R, []⟩ false c = (⟨s, l, R, []⟩, false, lookC l c) := (if_neg c1).trans ((if_neg c2).trans ((if_neg (by omega)).trans ((if_neg (by omega)))))
    have eL : lookC l c = ⟨0, liveL (rowE l), []⟩ := (if_neg k3).trans ((if_pos k4))
    rw [eD, eL]
    have hlr := row_le his.dn
    have hli := RList8_c his.dn R
    have hrk := RRank_c (rowE l) ((rowE l).map elD).length (by omega)
    have hra : rankL (rowE l) (((rowE l).map elD).length : Nat) = liveL (rowE l) := by rw [List.length_map]; exact rank_all _
    rw [hra] at hrk
    (repeat (first | refine Spl.t rfl ?_ | refine Spl.f rfl ?_))
    refine OpJ.callV hli (fun _ _ => rfl) rfl rfl rfl ?_
    (repeat (first | refine Spl.t rfl ?_ | refine Spl.f rfl ?_))
    refine RegP.mixS 9 [4, 5] rfl (by decide +kernel) ?_
    refine QuietP.of (QJ.call hrk (fun _ _ => rfl) rfl rfl) ?_
    (repeat (first | refine Spl.t rfl ?_ | refine Spl.f rfl ?_))
    refine .out (by simp) ?_
    refine FinP.viewTup 2 rfl (fun _ _ _ h => nil_sl 6 h) ?_
    exact FinP.open rfl rfl
  refine Spl.f (decide_eq_false k4) ?_
  (repeat (first | refine Spl.t rfl ?_ | refine Spl.f rfl ?_))
  by_cases k5 : c.k = 5
  · refine Spl.t (decide_eq_true k5) ?_
    have eD : chgR site ⟨s, l, R, []⟩ false c = (⟨s, l, R, []⟩, false, lookC l c) := (if_neg c1).trans ((if_neg c2).trans ((if_neg (by omega)).trans ((if_neg (by omega)))))
    have eL : lookC l c = if (curAt (rowE l) c.at_).2 ≠ 0 then ⟨(curAt (rowE l) c.at_).2, 0, []⟩ else ⟨0, 0, textI (curAt (rowE l) c.at_).1⟩ := (if_neg k3).trans ((if_neg k4).trans ((if_pos k5)))
    rw [eD, eL]
    have hp := RCAt_c his.dn R c.at_ hat
    generalize curAt (rowE l) c.at_ = p at hp ⊢
    obtain ⟨a, e⟩ := p
    simp only at hp ⊢
    have hs := RText_c a
    (repeat (first | refine Spl.t rfl ?_ | refine Spl.f rfl ?_))
    refine OpJ.callV hp (fun _ _ => rfl) rfl rfl rfl ?_
    (repeat (first | refine Spl.t rfl ?_ | refine Spl.f rfl ?_))
    refine Spl.of (fun h1 => ?_) (fun h1 => ?_)
    · have h1 : e ≠ 0 := by simpa using h1
      rw [if_pos h1]
      (repeat (first | refine Spl.t rfl ?_ | refine Spl.f rfl ?_))
      refine .out (by simp) ?_
      refine FinP.viewTup 2 rfl (fun _ _ _ h => nil_sl 6 h) ?_
      exact FinP.open rfl rfl
    · have h1 : ¬ e ≠ 0 := by simpa using h1
      rw [if_neg h1]
      (repeat (first | refine Spl.t rfl ?_ | refine Spl.f rfl ?_))
      refine RegP.mixS 7 [4, 5] rfl (by decide +kernel) ?_
      refine QuietP.of (QJ.call hs (fun _ _ => rfl) rfl rfl) ?_
      (repeat (first | refine Spl.t rfl ?_ | refine Spl.f rfl ?_))
      refine .out (by simp) ?_
      refine FinP.viewTup 2 rfl (fun _ _ _ h => nil_sl 6 h) ?_
      exact FinP.open rfl rfl
  refine Spl.f (decide_eq_false k5) ?_
  (repeat (first | refine Spl.t rfl ?_ | refine Spl.f rfl ?_))
  by_cases k6 : c.k = 6
  · refine Spl.t (decide_eq_true k6) ?_
    have eD : chgR site ⟨s, l, R, []⟩ false c = (⟨s, l, R, []⟩, false, lookC l c) := (if_neg c1).trans ((if_neg c2).trans ((if_neg (by omega)).trans ((if_neg (by omega)))))
    have eL : lookC l c = ⟨(resC (rowE l) c.a).2, (resC (rowE l) c.a).1, []⟩ := (if_neg k3).trans ((if_neg k4).trans ((if_neg k5).trans ((if_pos k6))))
    rw [eD, eL]
    have hp := RCResolve_c his.dn R c.a
    (repeat (first | refine Spl.t rfl ?_ | refine Spl.f rfl ?_))
    refine OpJ.callV hp (fun _ _ => rfl) rfl rfl rfl ?_
    (repeat (first | refine Spl.t rfl ?_ | refine Spl.f rfl ?_))
    refine .out (by simp) ?_
    refine FinP.viewTup 2 rfl (fun _ _ _ h => nil_sl 6 h) ?_
    exact FinP.open rfl rfl
  refine Spl.f (decide_eq_false k6) ?_
  (repeat (first | refine Spl.t rfl ?_ | refine Spl.f rfl ?_))
  by_cases k7 : c.k = 7
  · refine Spl.t (decide_eq_true k7) ?_
    have eD : chgR site ⟨s, l, R, []⟩ false c = (⟨s, l, R, []⟩, false, lookC l c) := (if_neg c1).trans ((if_neg c2).trans ((if_neg (by omega)).trans ((if_neg (by omega)))))
    have eL : lookC l c = ⟨0, l.length, textT (sumV l)⟩ := (if_neg k3).trans ((if_neg k4).trans ((if_neg k5).trans ((if_neg k6))))
    rw [eD, eL]
    have hs := Sum_c his.dn R
    have hlo : (l.map opD).length = l.length := List.length_map ..
    (repeat (first | refine Spl.t rfl ?_ | refine Spl.f rfl ?_))
    refine RegP.mixS 12 [4, 5] rfl (by decide +kernel) ?_
    refine QuietP.of (QJ.call hs (fun _ _ => rfl) rfl rfl) ?_
    (repeat (first | refine Spl.t rfl ?_ | refine Spl.f rfl ?_))
    refine .out (by simp) ?_
    rw [hlo]
    refine FinP.viewTup 2 rfl (fun _ _ _ h => nil_sl 6 h) ?_
    exact FinP.open rfl rfl
  refine Spl.f (decide_eq_false k7) ?_
  (repeat (first | refine Spl.t rfl ?_ | refine Spl.f rfl ?_))
  have eD : chgR site ⟨s, l, R, []⟩ false c = (⟨s, l, R, []⟩, true, ⟨0, 0, []⟩) := (if_neg c1).trans ((if_neg c2).trans (if_pos (by omega)))
  rw [eD]
  (first | refine Sq.go ?_ | refine vL_nil (Sq.go ?_) | skip)
  (try refine WJ.cut ?_)
  (first | refine Sq.go ?_ | refine vL_nil (Sq.go ?_) | skip)
  (try refine vc_sound _ _ _ _ ?_)
  refine FinP.viewTup 2 rfl (fun _ _ _ h => nil_sl 6 h) ?_
  exact FinP.open rfl rfl
end Go.Proofs.E
end
section
open Go Go.Gv
attribute [local irreducible] Go.Gv.WJ Go.Gv.OpJ Go.Gv.QJ Go.Gv.Spl Go.Gv.Req Go.Gv.IdxP Go.Gv.RegP Go.Gv.FinP Go.Gv.CellP Go.Gv.CellsP Go.Gv.ArrP Go.Gv.ArrsP Go.Gv.DropP Go.Gv.ByteP Go.Gv.StoreP
set_option maxRecDepth 100000
namespace Go.Proofs.E
attribute [local irreducible] elems
theorem okV.wr {v : VS} (h : okV v) (site : Int) (c : CALL) : okV (wrR site v c).1 ∧ (wrR site v c).1.out.length ≤ 17 := by
  have hs : okV v.same ∧ v.same.out.length ≤ 17 := ⟨h.same, by simp [VS.same]⟩
  unfold wrR
  split
  · unfold wrI
    split
    · exact hs
    · exact h.ins site c.at_ c.ch
  · split
    · unfold wrI
      split
      · exact hs
      · exact h.del c.at_
    · split
      · exact hs
      · exact ⟨h.rem c.o, rem_out h c.o⟩
theorem okV.chg {v : VS} (h : okV v) (site : Int) (cl : Bool) (c : CALL) : okV (chgR site v cl c).1 ∧ (chgR site v cl c).1.out.length ≤ 17 := by
  have hs : okV v.same ∧ v.same.out.length ≤ 17 := ⟨h.same, by simp [VS.same]⟩
  unfold chgR
  split
  · exact hs
  · split
    · exact hs
    · split
      · exact hs
      · split
        · exact h.wr site c
        · exact hs
theorem eqRS (a b : RS) : eqT Tryz.prog 3 110 [.int .i64 a.e, .int .i64 a.n, .string ⟨⟨a.t⟩⟩] [.int .i64 b.e, .int .i64 b.n, .string ⟨⟨b.t⟩⟩] = some (decide (a = b)) := by
  show some (decide (a.e = b.e) && (decide (a.n = b.n) && (((⟨⟨a.t⟩⟩ : ByteArray).toList == (⟨⟨b.t⟩⟩ : ByteArray).toList) && true))) = _
  rw [ByteArray.toList_eq, ByteArray.toList_eq]
  obtain ⟨a1, a2, a3⟩ := a
  obtain ⟨b1, b2, b3⟩ := b
  by_cases h3 : a3 = b3 <;> simp [h3]
theorem eqRS_ok : eqOk Tryz.prog 3 110 = true := by kernel_rfl
theorem eqRS_g : Tryz.prog.eqGuardType Tryz.prog.depth 110 = false := by kernel_rfl
theorem eqRR (a b : RS) : eqT Tryz.prog 3 120 [.int .i64 a.e, .int .i64 a.n, .string ⟨⟨a.t⟩⟩] [.int .i64 b.e, .int .i64 b.n, .string ⟨⟨b.t⟩⟩] = some (decide (a = b)) := by
  show some (decide (a.e = b.e) && (decide (a.n = b.n) && (((⟨⟨a.t⟩⟩ : ByteArray).toList == (⟨⟨b.t⟩⟩ : ByteArray).toList) && true))) = _
  rw [ByteArray.toList_eq, ByteArray.toList_eq]
  obtain ⟨a1, a2, a3⟩ := a
  obtain ⟨b1, b2, b3⟩ := b
  by_cases h3 : a3 = b3 <;> simp [h3]
theorem eqRR_ok : eqOk Tryz.prog 3 120 = true := by kernel_rfl
theorem eqRR_g : Tryz.prog.eqGuardType Tryz.prog.depth 120 = false := by kernel_rfl
def callA : CALL := ⟨0, 0, 97, OP0, ⟨0, 0⟩⟩
def kindC (k : Int) : CALL := ⟨k, 0, 0, OP0, ⟨0, 0⟩⟩
def rA : VS × Bool × RS := chgR 1 vA0 false callA
theorem okRA : okV rA.1 := (okA0.chg 1 false callA).1
theorem aw12_x : rA.2.2 = ⟨0, 1, [43, 49, 46, 49, 32, 45, 32, 54, 49]⟩ := by decide +kernel
theorem aw12_cl : rA.2.1 = false := by decide +kernel
theorem aw12_t : (chgR 1 ⟨rA.1.s, rA.1.l, rA.1.R, []⟩ false (kindC 3)).2.2 = ⟨0, 0, [97]⟩ := by decide +kernel
theorem Awake12_c : Cv 39 [] (bv true) := by
  have hn : Cv 40 [iv 1] (.tup [rpv 1 vA0.s vA0.l vA0.R false, iv 0]) := New_c 1
  have hd := RDo_c (s := vA0.s) (l := vA0.l) (R := vA0.R) okA0 1 false callA
  have hl := RLook_c okRA.out 1 false (kindC 3)
  rw [aw12_t] at hl
  have e1 : chgR 1 ⟨vA0.s, vA0.l, vA0.R, []⟩ false callA = rA := rfl
  rw [e1] at hd
  rw [aw12_x, aw12_cl] at hd
  generalize rA = p at hd hl
  obtain ⟨⟨v1, v2, v3, v4⟩, cl, x⟩ := p
  simp only at hd hl
  refine Ct.of_wv Tryz.f39 Tryz.func39 rfl rfl fun w H B g0 => ?_
  (try refine WJ.cut ?_)
  (first | refine Sq.go ?_ | refine vL_nil (Sq.go ?_) | skip)
  (try refine WJ.cut ?_)
  refine OpJ.callV hn (fun _ _ => rfl) rfl rfl rfl ?_
  (repeat (first | refine Spl.t rfl ?_ | refine Spl.f rfl ?_))
  (first | refine Sq.go ?_ | refine vL_nil (Sq.go ?_) | skip)
  (try refine WJ.cut ?_)
  refine OpJ.callV hd (fun _ _ => rfl) rfl rfl rfl ?_
  (repeat (first | refine Spl.t rfl ?_ | refine Spl.f rfl ?_))
  (first | refine Sq.go ?_ | refine vL_nil (Sq.go ?_) | skip)
  (try refine vc_sound _ _ _ _ ?_)
  refine OpJ.callV Awake11_c (fun _ _ => rfl) rfl rfl rfl ?_
  (repeat (first | refine Spl.t rfl ?_ | refine Spl.f rfl ?_))
  refine OpJ.qu (O.eqT 3 rfl rfl rfl rfl rfl eqRS_ok eqRS_g (eqRS ⟨0, 1, [43, 49, 46, 49, 32, 45, 32, 54, 49]⟩ ⟨0, 1, [43, 49, 46, 49, 32, 45, 32, 54, 49]⟩)) rfl ?_
  refine Spl.t (by simp) ?_
  (repeat (first | refine Spl.t rfl ?_ | refine Spl.f rfl ?_))
  refine OpJ.callV hl (fun _ _ => rfl) rfl rfl rfl ?_
  (repeat (first | refine Spl.t rfl ?_ | refine Spl.f rfl ?_))
  exact FinP.open rfl (congrArg bv (by simp))
end Go.Proofs.E
end
section
open Go Go.Gv
attribute [local irreducible] Go.Gv.WJ Go.Gv.OpJ Go.Gv.QJ Go.Gv.Spl Go.Gv.Req Go.Gv.IdxP Go.Gv.RegP Go.Gv.FinP Go.Gv.CellP Go.Gv.CellsP Go.Gv.ArrP Go.Gv.ArrsP Go.Gv.DropP Go.Gv.ByteP Go.Gv.StoreP
set_option maxRecDepth 100000
namespace Go.Proofs.E
attribute [local irreducible] elems
def okCall (c : CALL) : Prop := -9223372036854775808 ≤ c.at_ ∧ c.at_ ≤ 9223372036854775807
theorem callRow (cs : List D) (h : (Ty.st [.int .i64, .int .i64, .int .i32, .st [.int .i64, .st [.int .i64, .int .i64], .st [.int .i64, .int .i64], .int .i32], .st [.int .i64, .int .i64]]).ok cs) : ∃ x : CALL, cs = callD x ∧ okCall x := by
  obtain ⟨_, _, rfl, ⟨k, rfl, _⟩, ⟨_, _, rfl, ⟨at_, rfl, w⟩, ⟨_, _, rfl, ⟨ch, rfl, _⟩, ⟨_, _, rfl, ⟨_, _, rfl, ⟨a0, rfl, _⟩, ⟨_, _, rfl, ⟨_, _, rfl, ⟨a1, rfl, _⟩, ⟨_, _, rfl, ⟨a2, rfl, _⟩, rfl⟩⟩, ⟨_, _, rfl, ⟨_, _, rfl, ⟨a3, rfl, _⟩, ⟨_, _, rfl, ⟨a4, rfl, _⟩, rfl⟩⟩, ⟨_, _, rfl, ⟨a5, rfl, _⟩, rfl⟩⟩⟩⟩, ⟨_, _, rfl, ⟨_, _, rfl, ⟨c0, rfl, _⟩, ⟨_, _, rfl, ⟨c1, rfl, _⟩, rfl⟩⟩, rfl⟩⟩⟩⟩⟩ := h
  exact ⟨⟨k, at_, ch, ⟨a0, ⟨a1, a2⟩, ⟨a3, a4⟩, a5⟩, ⟨c0, c1⟩⟩, rfl, i64_rng w⟩
set_option maxHeartbeats 4000000 in
theorem ReplicaPlays_c (site : Int) (acts : List CALL) (hacts : ∀ x, x ∈ acts → okCall x) (k : Int) : Cv 9 [iv site, .d (.sl 11 (acts.map callD)), iv k] (bv true) := by
  refine Ct.of_wv Tryz.f9 Tryz.func9 rfl rfl fun w H B g0 => ?_
  (try refine WJ.cut ?_)
  (first | refine Sq.go ?_ | refine vL_nil (Sq.go ?_) | skip)
  (try refine WJ.cut ?_)
  refine Spl.of (fun g1 => ?_) (fun g1 => ?_)
  · (repeat (first | refine Spl.t rfl ?_ | refine Spl.f rfl ?_))
    refine OpJ.callV Awake12_c (fun _ _ => rfl) rfl rfl rfl ?_
    (repeat (first | refine Spl.t rfl ?_ | refine Spl.f rfl ?_))
    refine .out (by simp) ?_
    exact FinP.open rfl rfl
  have hw : acts.length ≤ 40 := by have := of_decide_eq_false g1; simp at this; omega
  have hn := New_c site
  (repeat (first | refine Spl.t rfl ?_ | refine Spl.f rfl ?_))
  (first | refine Sq.go ?_ | refine vL_nil (Sq.go ?_) | skip)
  (try refine WJ.cut ?_)
  by_cases c1 : site < 1 ∨ site > 1000
  · rw [if_pos c1, if_pos c1] at hn
    refine OpJ.callV hn (fun _ _ => rfl) rfl rfl rfl ?_
    (repeat (first | refine Spl.t rfl ?_ | refine Spl.f rfl ?_))
    (first | refine Sq.go ?_ | refine vL_nil (Sq.go ?_) | skip)
    (try refine WJ.cut ?_)
    (first | refine Sq.go ?_ | refine vL_nil (Sq.go ?_) | skip)
    refine WJ.shift (SJ.viewCell 9 1 rfl rfl fun _ _ _ h => nil_sl 6 h) ?_
    refine WJ.shift (SJ.viewCell 9 2 rfl rfl fun _ _ _ h => nil_sl 6 h) ?_
    (try refine WJ.cut ?_)
    refine Spl.of (fun h1 => ?_) (fun h1 => ?_)
    · (repeat (first | refine Spl.t rfl ?_ | refine Spl.f rfl ?_))
      (first | refine Sq.go ?_ | refine vL_nil (Sq.go ?_) | skip)
      (try refine WJ.cut ?_)
      (first | refine Sq.go ?_ | refine vL_nil (Sq.go ?_) | skip)
      (try refine WJ.cut ?_)
      refine WJ.loopK (V := Nat × VS × Bool) (fun v => [(44, iv v.1)]) (fun v => [(7, .cells (rcs 0 v.2.1.s v.2.1.l v.2.1.R v.2.2)), (9, .cells [iv 0, .d (.sl 6 (v.2.1.l.map opD)), .d (.sl 6 (v.2.1.R.map opD)), bv v.2.2])]) [7, 9] (fun v => acts.length - v.1) (fun v => v.1 ≤ acts.length ∧ okV ⟨v.2.1.s, v.2.1.l, v.2.1.R, []⟩) (0, vA0, false) ⟨by simp, okA0⟩ (by repeat' (first | exact trivial | exact rfl | refine And.intro ?_ ?_)) (by repeat' (first | exact trivial | exact rfl | refine And.intro ?_ ?_)) ?_
      rintro ⟨i, ⟨s, l, R, out⟩, cl⟩ ⟨hi, hv⟩
      simp only at hi hv
      refine Spl.of (fun h1 => ?_) (fun h1 => ?_)
      · have hlt : i < acts.length := by have := of_decide_eq_true h1; simp at this; omega
        have hs0 : (0 : Int) = 0 := rfl
        have hx : acts[i]? = some acts[i] := by simp
        have hax := hacts _ (List.getElem_mem hlt)
        generalize acts[i] = c at hx hax
        have hch := Changes12_c hv 0 cl c
        have hrd := RefDo_c hv 0 cl c hax.2
        have hdo := RDo_c hv 0 cl c
        have hlk := RLook_c hv 0 cl c
        obtain ⟨hok, hol⟩ := hv.chg 0 cl c
        generalize chgR 0 ⟨s, l, R, []⟩ cl c = p at hch hrd hdo hlk hok hol
        obtain ⟨⟨v1, v2, v3, v4⟩, cl', x⟩ := p
        simp only at hch hrd hdo hlk hok hol
        have hok' := hok.out
        simp only at hok'
        have hcg := Changes8_c v4 (by omega)
        have his8 := Is8_c hok'.is v3 (by have := hok'.len; simp only at this; omega)
        have hver := RVersion_c 0 v1 v2 v3 cl'
        have hclo := RClosed_c 0 v1 v2 v3 cl'
        (repeat (first | refine Spl.t rfl ?_ | refine Spl.f rfl ?_))
        refine IdxP.of (callD c) (by omega) (by simp [hx]) ?_
        (repeat (first | refine Spl.t rfl ?_ | refine Spl.f rfl ?_))
        refine OpJ.callV hch (fun _ _ => rfl) rfl rfl rfl ?_
        (repeat (first | refine Spl.t rfl ?_ | refine Spl.f rfl ?_))
        refine RegP.mixT 13 [] rfl (by decide +kernel) ?_
        refine QuietP.of (QJ.call (Of12_c c) (fun _ _ => rfl) rfl rfl) ?_
        refine QuietP.of (QJ.call hrd (fun _ _ => rfl) rfl rfl) ?_
        (repeat (first | refine Spl.t rfl ?_ | refine Spl.f rfl ?_))
        refine OpJ.callV hdo (fun _ _ => rfl) rfl rfl rfl ?_
        (repeat (first | refine Spl.t rfl ?_ | refine Spl.f rfl ?_))
        refine RegP.of rfl (by decide +kernel) ?_
        refine QuietP.of (QJ.call (Said12_c x) (fun _ _ => rfl) rfl rfl) ?_
        (repeat (first | refine Spl.t rfl ?_ | refine Spl.f rfl ?_))
        refine QuietP.of (O.neT 3 rfl rfl rfl rfl rfl eqRR_ok eqRR_g (eqRR x x)) ?_
        refine Spl.f (by simp) ?_
        (repeat (first | refine Spl.t rfl ?_ | refine Spl.f rfl ?_))
        refine QuietP.of (O.neT 3 rfl rfl rfl rfl rfl eqRS_ok eqRS_g (eqRS x x)) ?_
        refine Spl.f (by simp) ?_
        (repeat (first | refine Spl.t rfl ?_ | refine Spl.f rfl ?_))
        refine QuietP.of (QJ.call hlk (fun _ _ => rfl) rfl rfl) ?_
        (repeat (first | refine Spl.t rfl ?_ | refine Spl.f rfl ?_))
        refine QuietP.of (O.neT 3 rfl rfl rfl rfl rfl eqRS_ok eqRS_g (eqRS x x)) ?_
        refine Spl.f (by simp) ?_
        (repeat (first | refine Spl.t rfl ?_ | refine Spl.f rfl ?_))
        refine QuietP.of (QJ.call hcg (fun _ _ => rfl) rfl rfl) ?_
        (repeat (first | refine Spl.t rfl ?_ | refine Spl.f rfl ?_))
        refine QuietP.of (QJ.call hver (fun _ _ => rfl) rfl rfl) ?_
        (repeat (first | refine Spl.t rfl ?_ | refine Spl.f rfl ?_))
        refine QuietP.of (QJ.call his8 (fun _ _ => rfl) rfl rfl) ?_
        (repeat (first | refine Spl.t rfl ?_ | refine Spl.f rfl ?_))
        refine RegP.mixS 4 [7, 9] rfl (by decide +kernel) ?_
        (repeat (first | refine Spl.t rfl ?_ | refine Spl.f rfl ?_))
        refine RegP.of rfl (by decide +kernel) ?_
        refine QuietP.of (QJ.call hver (fun _ _ => rfl) rfl rfl) ?_
        (repeat (first | refine Spl.t rfl ?_ | refine Spl.f rfl ?_))
        refine QuietP.of (QJ.call his8 (fun _ _ => rfl) rfl rfl) ?_
        (repeat (first | refine Spl.t rfl ?_ | refine Spl.f rfl ?_))
        refine QuietP.of (QJ.call hclo (fun _ _ => rfl) rfl rfl) ?_
        cases cl'
        all_goals (repeat (first | refine Spl.t rfl ?_ | refine Spl.f rfl ?_))
        all_goals (try (refine Spl.f (by simp [hs0]) ?_))
        all_goals (repeat (first | refine Spl.t rfl ?_ | refine Spl.f rfl ?_))
        all_goals exact ⟨(i + 1, ⟨v1, v2, v3, []⟩, _), ⟨by simp only; omega, hok'⟩, by simp only; omega, ⟨some_iv (wrap_id _ (by omega) (by omega)), trivial⟩, (by repeat' (first | exact trivial | exact rfl | refine And.intro ?_ ?_)), (by repeat' (first | exact trivial | exact rfl | refine And.intro ?_ ?_)), (by repeat' (first | exact trivial | exact rfl | refine And.intro ?_ ?_))⟩
      · have hwk := Writes_c k
        have hks := KString_c k
        have hwd := Word_c k
        clear hi h1
        (repeat (first | refine Spl.t rfl ?_ | refine Spl.f rfl ?_))
        (first | refine Sq.go ?_ | refine vL_nil (Sq.go ?_) | skip)
        (try refine vc_sound _ _ _ _ ?_)
        refine OpJ.callV Awake12_c (fun _ _ => rfl) rfl rfl rfl ?_
        (repeat (first | refine Spl.t rfl ?_ | refine Spl.f rfl ?_))
        refine OpJ.callV hks (fun _ _ => rfl) rfl rfl rfl ?_
        (repeat (first | refine Spl.t rfl ?_ | refine Spl.f rfl ?_))
        refine OpJ.callV hwd (fun _ _ => rfl) rfl rfl rfl ?_
        (repeat (first | refine Spl.t rfl ?_ | refine Spl.f rfl ?_))
        refine Spl.t (by simp) ?_
        (repeat (first | refine Spl.t rfl ?_ | refine Spl.f rfl ?_))
        refine OpJ.callV hwk (fun _ _ => rfl) rfl rfl rfl ?_
        (repeat (first | refine Spl.t rfl ?_ | refine Spl.f rfl ?_))
        refine Spl.of (fun h2 => ?_) (fun h2 => ?_)
        · (repeat (first | refine Spl.t rfl ?_ | refine Spl.f rfl ?_))
          refine FinP.open rfl (congrArg bv ?_)
          have h2 := of_decide_eq_true h2
          simp [h2]
        · (repeat (first | refine Spl.t rfl ?_ | refine Spl.f rfl ?_))
          refine FinP.open rfl (congrArg bv ?_)
          have h2 := of_decide_eq_false h2
          simp [h2]
    · (repeat (first | refine Spl.t rfl ?_ | refine Spl.f rfl ?_))
      refine Spl.t (decide_eq_true (by have := of_decide_eq_false h1; omega)) ?_
      (repeat (first | refine Spl.t rfl ?_ | refine Spl.f rfl ?_))
      (first | refine Sq.go ?_ | refine vL_nil (Sq.go ?_) | skip)
      (try refine WJ.cut ?_)
      (first | refine Sq.go ?_ | refine vL_nil (Sq.go ?_) | skip)
      (try refine WJ.cut ?_)
      refine WJ.loopK (V := Nat × VS × Bool) (fun v => [(44, iv v.1)]) (fun v => [(7, .cells (rcs 0 v.2.1.s v.2.1.l v.2.1.R v.2.2)), (9, .cells [iv 0, .d (.sl 6 (v.2.1.l.map opD)), .d (.sl 6 (v.2.1.R.map opD)), bv v.2.2])]) [7, 9] (fun v => acts.length - v.1) (fun v => v.1 ≤ acts.length ∧ okV ⟨v.2.1.s, v.2.1.l, v.2.1.R, []⟩) (0, vA0, false) ⟨by simp, okA0⟩ (by repeat' (first | exact trivial | exact rfl | refine And.intro ?_ ?_)) (by repeat' (first | exact trivial | exact rfl | refine And.intro ?_ ?_)) ?_
      rintro ⟨i, ⟨s, l, R, out⟩, cl⟩ ⟨hi, hv⟩
      simp only at hi hv
      refine Spl.of (fun h1 => ?_) (fun h1 => ?_)
      · have hlt : i < acts.length := by have := of_decide_eq_true h1; simp at this; omega
        have hs0 : (0 : Int) = 0 := rfl
        have hx : acts[i]? = some acts[i] := by simp
        have hax := hacts _ (List.getElem_mem hlt)
        generalize acts[i] = c at hx hax
        have hch := Changes12_c hv 0 cl c
        have hrd := RefDo_c hv 0 cl c hax.2
        have hdo := RDo_c hv 0 cl c
        have hlk := RLook_c hv 0 cl c
        obtain ⟨hok, hol⟩ := hv.chg 0 cl c
        generalize chgR 0 ⟨s, l, R, []⟩ cl c = p at hch hrd hdo hlk hok hol
        obtain ⟨⟨v1, v2, v3, v4⟩, cl', x⟩ := p
        simp only at hch hrd hdo hlk hok hol
        have hok' := hok.out
        simp only at hok'
        have hcg := Changes8_c v4 (by omega)
        have his8 := Is8_c hok'.is v3 (by have := hok'.len; simp only at this; omega)
        have hver := RVersion_c 0 v1 v2 v3 cl'
        have hclo := RClosed_c 0 v1 v2 v3 cl'
        (repeat (first | refine Spl.t rfl ?_ | refine Spl.f rfl ?_))
        refine IdxP.of (callD c) (by omega) (by simp [hx]) ?_
        (repeat (first | refine Spl.t rfl ?_ | refine Spl.f rfl ?_))
        refine OpJ.callV hch (fun _ _ => rfl) rfl rfl rfl ?_
        (repeat (first | refine Spl.t rfl ?_ | refine Spl.f rfl ?_))
        refine RegP.mixT 13 [] rfl (by decide +kernel) ?_
        refine QuietP.of (QJ.call (Of12_c c) (fun _ _ => rfl) rfl rfl) ?_
        refine QuietP.of (QJ.call hrd (fun _ _ => rfl) rfl rfl) ?_
        (repeat (first | refine Spl.t rfl ?_ | refine Spl.f rfl ?_))
        refine OpJ.callV hdo (fun _ _ => rfl) rfl rfl rfl ?_
        (repeat (first | refine Spl.t rfl ?_ | refine Spl.f rfl ?_))
        refine RegP.of rfl (by decide +kernel) ?_
        refine QuietP.of (QJ.call (Said12_c x) (fun _ _ => rfl) rfl rfl) ?_
        (repeat (first | refine Spl.t rfl ?_ | refine Spl.f rfl ?_))
        refine QuietP.of (O.neT 3 rfl rfl rfl rfl rfl eqRR_ok eqRR_g (eqRR x x)) ?_
        refine Spl.f (by simp) ?_
        (repeat (first | refine Spl.t rfl ?_ | refine Spl.f rfl ?_))
        refine QuietP.of (O.neT 3 rfl rfl rfl rfl rfl eqRS_ok eqRS_g (eqRS x x)) ?_
        refine Spl.f (by simp) ?_
        (repeat (first | refine Spl.t rfl ?_ | refine Spl.f rfl ?_))
        refine QuietP.of (QJ.call hlk (fun _ _ => rfl) rfl rfl) ?_
        (repeat (first | refine Spl.t rfl ?_ | refine Spl.f rfl ?_))
        refine QuietP.of (O.neT 3 rfl rfl rfl rfl rfl eqRS_ok eqRS_g (eqRS x x)) ?_
        refine Spl.f (by simp) ?_
        (repeat (first | refine Spl.t rfl ?_ | refine Spl.f rfl ?_))
        refine QuietP.of (QJ.call hcg (fun _ _ => rfl) rfl rfl) ?_
        (repeat (first | refine Spl.t rfl ?_ | refine Spl.f rfl ?_))
        refine QuietP.of (QJ.call hver (fun _ _ => rfl) rfl rfl) ?_
        (repeat (first | refine Spl.t rfl ?_ | refine Spl.f rfl ?_))
        refine QuietP.of (QJ.call his8 (fun _ _ => rfl) rfl rfl) ?_
        (repeat (first | refine Spl.t rfl ?_ | refine Spl.f rfl ?_))
        refine RegP.mixS 4 [7, 9] rfl (by decide +kernel) ?_
        (repeat (first | refine Spl.t rfl ?_ | refine Spl.f rfl ?_))
        refine RegP.of rfl (by decide +kernel) ?_
        refine QuietP.of (QJ.call hver (fun _ _ => rfl) rfl rfl) ?_
        (repeat (first | refine Spl.t rfl ?_ | refine Spl.f rfl ?_))
        refine QuietP.of (QJ.call his8 (fun _ _ => rfl) rfl rfl) ?_
        (repeat (first | refine Spl.t rfl ?_ | refine Spl.f rfl ?_))
        refine QuietP.of (QJ.call hclo (fun _ _ => rfl) rfl rfl) ?_
        cases cl'
        all_goals (repeat (first | refine Spl.t rfl ?_ | refine Spl.f rfl ?_))
        all_goals (try (refine Spl.f (by simp [hs0]) ?_))
        all_goals (repeat (first | refine Spl.t rfl ?_ | refine Spl.f rfl ?_))
        all_goals exact ⟨(i + 1, ⟨v1, v2, v3, []⟩, _), ⟨by simp only; omega, hok'⟩, by simp only; omega, ⟨some_iv (wrap_id _ (by omega) (by omega)), trivial⟩, (by repeat' (first | exact trivial | exact rfl | refine And.intro ?_ ?_)), (by repeat' (first | exact trivial | exact rfl | refine And.intro ?_ ?_)), (by repeat' (first | exact trivial | exact rfl | refine And.intro ?_ ?_))⟩
      · have hwk := Writes_c k
        have hks := KString_c k
        have hwd := Word_c k
        clear hi h1
        (repeat (first | refine Spl.t rfl ?_ | refine Spl.f rfl ?_))
        (first | refine Sq.go ?_ | refine vL_nil (Sq.go ?_) | skip)
        (try refine vc_sound _ _ _ _ ?_)
        refine OpJ.callV Awake12_c (fun _ _ => rfl) rfl rfl rfl ?_
        (repeat (first | refine Spl.t rfl ?_ | refine Spl.f rfl ?_))
        refine OpJ.callV hks (fun _ _ => rfl) rfl rfl rfl ?_
        (repeat (first | refine Spl.t rfl ?_ | refine Spl.f rfl ?_))
        refine OpJ.callV hwd (fun _ _ => rfl) rfl rfl rfl ?_
        (repeat (first | refine Spl.t rfl ?_ | refine Spl.f rfl ?_))
        refine Spl.t (by simp) ?_
        (repeat (first | refine Spl.t rfl ?_ | refine Spl.f rfl ?_))
        refine OpJ.callV hwk (fun _ _ => rfl) rfl rfl rfl ?_
        (repeat (first | refine Spl.t rfl ?_ | refine Spl.f rfl ?_))
        refine Spl.of (fun h2 => ?_) (fun h2 => ?_)
        · (repeat (first | refine Spl.t rfl ?_ | refine Spl.f rfl ?_))
          refine FinP.open rfl (congrArg bv ?_)
          have h2 := of_decide_eq_true h2
          simp [h2]
        · (repeat (first | refine Spl.t rfl ?_ | refine Spl.f rfl ?_))
          refine FinP.open rfl (congrArg bv ?_)
          have h2 := of_decide_eq_false h2
          simp [h2]
  · rw [if_neg c1, if_neg c1] at hn
    refine OpJ.callV hn (fun _ _ => rfl) rfl rfl rfl ?_
    (repeat (first | refine Spl.t rfl ?_ | refine Spl.f rfl ?_))
    (first | refine Sq.go ?_ | refine vL_nil (Sq.go ?_) | skip)
    (try refine WJ.cut ?_)
    (first | refine Sq.go ?_ | refine vL_nil (Sq.go ?_) | skip)
    refine WJ.shift (SJ.viewCell 9 1 rfl rfl fun _ _ _ h => nil_sl 6 h) ?_
    refine WJ.shift (SJ.viewCell 9 2 rfl rfl fun _ _ _ h => nil_sl 6 h) ?_
    (try refine WJ.cut ?_)
    refine Spl.f (decide_eq_false (by omega)) ?_
    (repeat (first | refine Spl.t rfl ?_ | refine Spl.f rfl ?_))
    refine Spl.f (decide_eq_false (by omega)) ?_
    (repeat (first | refine Spl.t rfl ?_ | refine Spl.f rfl ?_))
    (first | refine Sq.go ?_ | refine vL_nil (Sq.go ?_) | skip)
    (try refine WJ.cut ?_)
    (first | refine Sq.go ?_ | refine vL_nil (Sq.go ?_) | skip)
    (try refine WJ.cut ?_)
    refine WJ.loopK (V := Nat × VS × Bool) (fun v => [(44, iv v.1)]) (fun v => [(7, .cells (rcs site v.2.1.s v.2.1.l v.2.1.R v.2.2)), (9, .cells [iv site, .d (.sl 6 (v.2.1.l.map opD)), .d (.sl 6 (v.2.1.R.map opD)), bv v.2.2])]) [7, 9] (fun v => acts.length - v.1) (fun v => v.1 ≤ acts.length ∧ okV ⟨v.2.1.s, v.2.1.l, v.2.1.R, []⟩) (0, vA0, false) ⟨by simp, okA0⟩ (by repeat' (first | exact trivial | exact rfl | refine And.intro ?_ ?_)) (by repeat' (first | exact trivial | exact rfl | refine And.intro ?_ ?_)) ?_
    rintro ⟨i, ⟨s, l, R, out⟩, cl⟩ ⟨hi, hv⟩
    simp only at hi hv
    refine Spl.of (fun h1 => ?_) (fun h1 => ?_)
    · have hlt : i < acts.length := by have := of_decide_eq_true h1; simp at this; omega
      have hs0 : ¬ site = 0 := by omega
      have hx : acts[i]? = some acts[i] := by simp
      have hax := hacts _ (List.getElem_mem hlt)
      generalize acts[i] = c at hx hax
      have hch := Changes12_c hv site cl c
      have hrd := RefDo_c hv site cl c hax.2
      have hdo := RDo_c hv site cl c
      have hlk := RLook_c hv site cl c
      obtain ⟨hok, hol⟩ := hv.chg site cl c
      generalize chgR site ⟨s, l, R, []⟩ cl c = p at hch hrd hdo hlk hok hol
      obtain ⟨⟨v1, v2, v3, v4⟩, cl', x⟩ := p
      simp only at hch hrd hdo hlk hok hol
      have hok' := hok.out
      simp only at hok'
      have hcg := Changes8_c v4 (by omega)
      have his8 := Is8_c hok'.is v3 (by have := hok'.len; simp only at this; omega)
      have hver := RVersion_c site v1 v2 v3 cl'
      have hclo := RClosed_c site v1 v2 v3 cl'
      (repeat (first | refine Spl.t rfl ?_ | refine Spl.f rfl ?_))
      refine IdxP.of (callD c) (by omega) (by simp [hx]) ?_
      (repeat (first | refine Spl.t rfl ?_ | refine Spl.f rfl ?_))
      refine OpJ.callV hch (fun _ _ => rfl) rfl rfl rfl ?_
      (repeat (first | refine Spl.t rfl ?_ | refine Spl.f rfl ?_))
      refine RegP.mixT 13 [] rfl (by decide +kernel) ?_
      refine QuietP.of (QJ.call (Of12_c c) (fun _ _ => rfl) rfl rfl) ?_
      refine QuietP.of (QJ.call hrd (fun _ _ => rfl) rfl rfl) ?_
      (repeat (first | refine Spl.t rfl ?_ | refine Spl.f rfl ?_))
      refine OpJ.callV hdo (fun _ _ => rfl) rfl rfl rfl ?_
      (repeat (first | refine Spl.t rfl ?_ | refine Spl.f rfl ?_))
      refine RegP.of rfl (by decide +kernel) ?_
      refine QuietP.of (QJ.call (Said12_c x) (fun _ _ => rfl) rfl rfl) ?_
      (repeat (first | refine Spl.t rfl ?_ | refine Spl.f rfl ?_))
      refine QuietP.of (O.neT 3 rfl rfl rfl rfl rfl eqRR_ok eqRR_g (eqRR x x)) ?_
      refine Spl.f (by simp) ?_
      (repeat (first | refine Spl.t rfl ?_ | refine Spl.f rfl ?_))
      refine QuietP.of (O.neT 3 rfl rfl rfl rfl rfl eqRS_ok eqRS_g (eqRS x x)) ?_
      refine Spl.f (by simp) ?_
      (repeat (first | refine Spl.t rfl ?_ | refine Spl.f rfl ?_))
      refine QuietP.of (QJ.call hlk (fun _ _ => rfl) rfl rfl) ?_
      (repeat (first | refine Spl.t rfl ?_ | refine Spl.f rfl ?_))
      refine QuietP.of (O.neT 3 rfl rfl rfl rfl rfl eqRS_ok eqRS_g (eqRS x x)) ?_
      refine Spl.f (by simp) ?_
      (repeat (first | refine Spl.t rfl ?_ | refine Spl.f rfl ?_))
      refine QuietP.of (QJ.call hcg (fun _ _ => rfl) rfl rfl) ?_
      (repeat (first | refine Spl.t rfl ?_ | refine Spl.f rfl ?_))
      refine QuietP.of (QJ.call hver (fun _ _ => rfl) rfl rfl) ?_
      (repeat (first | refine Spl.t rfl ?_ | refine Spl.f rfl ?_))
      refine QuietP.of (QJ.call his8 (fun _ _ => rfl) rfl rfl) ?_
      (repeat (first | refine Spl.t rfl ?_ | refine Spl.f rfl ?_))
      refine RegP.mixS 4 [7, 9] rfl (by decide +kernel) ?_
      (repeat (first | refine Spl.t rfl ?_ | refine Spl.f rfl ?_))
      refine RegP.of rfl (by decide +kernel) ?_
      refine QuietP.of (QJ.call hver (fun _ _ => rfl) rfl rfl) ?_
      (repeat (first | refine Spl.t rfl ?_ | refine Spl.f rfl ?_))
      refine QuietP.of (QJ.call his8 (fun _ _ => rfl) rfl rfl) ?_
      (repeat (first | refine Spl.t rfl ?_ | refine Spl.f rfl ?_))
      refine QuietP.of (QJ.call hclo (fun _ _ => rfl) rfl rfl) ?_
      cases cl'
      all_goals (repeat (first | refine Spl.t rfl ?_ | refine Spl.f rfl ?_))
      all_goals (try (refine Spl.f (by simp [hs0]) ?_))
      all_goals (repeat (first | refine Spl.t rfl ?_ | refine Spl.f rfl ?_))
      all_goals exact ⟨(i + 1, ⟨v1, v2, v3, []⟩, _), ⟨by simp only; omega, hok'⟩, by simp only; omega, ⟨some_iv (wrap_id _ (by omega) (by omega)), trivial⟩, (by repeat' (first | exact trivial | exact rfl | refine And.intro ?_ ?_)), (by repeat' (first | exact trivial | exact rfl | refine And.intro ?_ ?_)), (by repeat' (first | exact trivial | exact rfl | refine And.intro ?_ ?_))⟩
    · have hwk := Writes_c k
      have hks := KString_c k
      have hwd := Word_c k
      clear hi h1
      (repeat (first | refine Spl.t rfl ?_ | refine Spl.f rfl ?_))
      (first | refine Sq.go ?_ | refine vL_nil (Sq.go ?_) | skip)
      (try refine vc_sound _ _ _ _ ?_)
      refine OpJ.callV Awake12_c (fun _ _ => rfl) rfl rfl rfl ?_
      (repeat (first | refine Spl.t rfl ?_ | refine Spl.f rfl ?_))
      refine OpJ.callV hks (fun _ _ => rfl) rfl rfl rfl ?_
      (repeat (first | refine Spl.t rfl ?_ | refine Spl.f rfl ?_))
      refine OpJ.callV hwd (fun _ _ => rfl) rfl rfl rfl ?_
      (repeat (first | refine Spl.t rfl ?_ | refine Spl.f rfl ?_))
      refine Spl.t (by simp) ?_
      (repeat (first | refine Spl.t rfl ?_ | refine Spl.f rfl ?_))
      refine OpJ.callV hwk (fun _ _ => rfl) rfl rfl rfl ?_
      (repeat (first | refine Spl.t rfl ?_ | refine Spl.f rfl ?_))
      refine Spl.of (fun h2 => ?_) (fun h2 => ?_)
      · (repeat (first | refine Spl.t rfl ?_ | refine Spl.f rfl ?_))
        refine FinP.open rfl (congrArg bv ?_)
        have h2 := of_decide_eq_true h2
        simp [h2]
      · (repeat (first | refine Spl.t rfl ?_ | refine Spl.f rfl ?_))
        refine FinP.open rfl (congrArg bv ?_)
        have h2 := of_decide_eq_false h2
        simp [h2]
end Go.Proofs.E
end
