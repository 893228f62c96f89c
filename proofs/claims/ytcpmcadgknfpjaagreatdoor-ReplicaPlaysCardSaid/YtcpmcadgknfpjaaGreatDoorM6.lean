/- Laws that the claim's text stands on: Rows as trees: the law's example; The law PtreeStays; Rows as trees: balance; what the reference says of a row; A replica's elements: what is there, where; A replica's elements: operations are applied; A replica's elements: the law's example; the law CoreFull; What the reference says of a row: letters, text, rank; Is a row the document's?; The reference's state of operations: has, wrong, place; The reference: why an operation can't be applied; Private rows cut; append of a private row's end onto data that has no room; The reference: the row of operations; The law PmapPlays; Is a state the document's?; The law CorePlays; A room of operations that wait. -/
import Derived.Test.YtcpmcadgknfpjaaGreatDoorM1
import Derived.Test.YtcpmcadgknfpjaaGreatDoorM2
import Derived.Test.YtcpmcadgknfpjaaGreatDoorM3
import Derived.Test.YtcpmcadgknfpjaaGreatDoorDShelf
import Derived.Test.YtcpmcadgknfpjaaGreatDoorM4
import Derived.Test.YtcpmcadgknfpjaaGreatDoorM5
set_option linter.unusedVariables false
set_option linter.unusedSimpArgs false
section
open Go Go.Gv
attribute [local irreducible] Go.Gv.WJ Go.Gv.OpJ Go.Gv.QJ Go.Gv.Spl Go.Gv.Req Go.Gv.IdxP Go.Gv.RegP Go.Gv.FinP Go.Gv.CellP Go.Gv.CellsP Go.Gv.ArrP Go.Gv.ArrsP Go.Gv.DropP Go.Gv.ByteP Go.Gv.StoreP
set_option maxRecDepth 100000
namespace Go.Proofs.E
def abcS : ByteArray := ⟨#[97, 98, 99]⟩
def trs : Nat → TR
  | 0 => .nil
  | 1 => insT .nil 0 ⟨⟨1, 1⟩, 97, false⟩
  | 2 => insT (insT .nil 0 ⟨⟨1, 1⟩, 97, false⟩) 1 ⟨⟨2, 1⟩, 98, true⟩
  | _ => insT (insT (insT .nil 0 ⟨⟨1, 1⟩, 97, false⟩) 1 ⟨⟨2, 1⟩, 98, true⟩) 2 ⟨⟨3, 1⟩, 99, false⟩
theorem Awake3_c : Cv 138 [] (bv true) := by
  have i0 := Insert_c (trs 0) 0 ⟨⟨1, 1⟩, 97, false⟩ (by decide)
  have i1 := Insert_c (trs 1) 1 ⟨⟨2, 1⟩, 98, true⟩ (by decide)
  have i2 := Insert_c (trs 2) 2 ⟨⟨3, 1⟩, 99, false⟩ (by decide)
  have se := Select_c (trs 3) 1 (by decide)
  have ra := Rank_c (trs 3) 2 (by decide) (by decide) (by decide)
  have tx := Text_c (trs 3) (by decide) (by unfold okE; decide +kernel)
  refine Ct.of_wv Tryz.f138 Tryz.func138 rfl rfl fun w H B g0 => ?_
  try refine WJ.cut ?_
  (first | refine Sq.go ?_ | refine vL_nil (Sq.go ?_) | skip)
  try refine WJ.cut ?_
  (first | refine Sq.go ?_ | refine vL_nil (Sq.go ?_) | skip)
  try refine WJ.cut ?_
  refine O.rangeS rfl rfl rfl rfl ?_
  refine WJ.loopK (V := Nat) (fun _ => []) (fun v => [(1, .cells [.d (trs v).d]), (6, .obj (.stringIter abcS v))]) [1, 6] (fun v => 3 - v) (fun v => v ≤ 3) 0 (by decide) (by repeat' (first | exact trivial | exact rfl | refine And.intro ?_ ?_)) (by repeat' (first | exact trivial | exact rfl | refine And.intro ?_ ?_)) ?_
  intro v hv
  obtain rfl | rfl | rfl | rfl : v = 0 ∨ v = 1 ∨ v = 2 ∨ v = 3 := by omega
  · refine O.nextS rfl rfl (by decide) rfl ?_
    (repeat (first | refine Spl.t rfl ?_ | refine Spl.f rfl ?_))
    refine OpJ.callV i0 (fun _ _ => rfl) rfl rfl rfl ?_
    (repeat (first | refine Spl.t rfl ?_ | refine Spl.f rfl ?_))
    exact ⟨1, by decide, by decide, (by repeat' (first | exact trivial | exact rfl | refine And.intro ?_ ?_)), (by repeat' (first | exact trivial | exact rfl | refine And.intro ?_ ?_)), (by repeat' (first | exact trivial | exact rfl | refine And.intro ?_ ?_)), (by repeat' (first | exact trivial | exact rfl | refine And.intro ?_ ?_))⟩
  · refine O.nextS rfl rfl (by decide) rfl ?_
    (repeat (first | refine Spl.t rfl ?_ | refine Spl.f rfl ?_))
    refine OpJ.callV i1 (fun _ _ => rfl) rfl rfl rfl ?_
    (repeat (first | refine Spl.t rfl ?_ | refine Spl.f rfl ?_))
    exact ⟨2, by decide, by decide, (by repeat' (first | exact trivial | exact rfl | refine And.intro ?_ ?_)), (by repeat' (first | exact trivial | exact rfl | refine And.intro ?_ ?_)), (by repeat' (first | exact trivial | exact rfl | refine And.intro ?_ ?_)), (by repeat' (first | exact trivial | exact rfl | refine And.intro ?_ ?_))⟩
  · refine O.nextS rfl rfl (by decide) rfl ?_
    (repeat (first | refine Spl.t rfl ?_ | refine Spl.f rfl ?_))
    refine OpJ.callV i2 (fun _ _ => rfl) rfl rfl rfl ?_
    (repeat (first | refine Spl.t rfl ?_ | refine Spl.f rfl ?_))
    exact ⟨3, by decide, by decide, (by repeat' (first | exact trivial | exact rfl | refine And.intro ?_ ?_)), (by repeat' (first | exact trivial | exact rfl | refine And.intro ?_ ?_)), (by repeat' (first | exact trivial | exact rfl | refine And.intro ?_ ?_)), (by repeat' (first | exact trivial | exact rfl | refine And.intro ?_ ?_))⟩
  · refine O.overS rfl rfl (by decide) rfl ?_
    (repeat (first | refine Spl.t rfl ?_ | refine Spl.f rfl ?_))
    (first | refine Sq.go ?_ | refine vL_nil (Sq.go ?_) | skip)
    try refine WJ.cut ?_
    refine OpJ.callV se (fun _ _ => rfl) rfl rfl rfl ?_
    (first | refine Sq.go ?_ | refine vL_nil (Sq.go ?_) | skip)
    try refine WJ.cut ?_
    refine OpJ.callV Awake_c (fun _ _ => rfl) rfl rfl rfl ?_
    (repeat (first | refine Spl.t rfl ?_ | refine Spl.f rfl ?_))
    refine OpJ.callV ra (fun _ _ => rfl) rfl rfl rfl ?_
    (repeat (first | refine Spl.t rfl ?_ | refine Spl.f rfl ?_))
    refine OpJ.callV tx (fun _ _ => rfl) rfl rfl rfl ?_
    (repeat (first | refine Spl.t rfl ?_ | refine Spl.f rfl ?_))
    (first | refine Sq.go ?_ | refine vL_nil (Sq.go ?_) | skip)
    try refine vc_sound _ _ _ _ ?_
    refine FinP.open rfl (congrArg bv ?_)
    decide +kernel
end Go.Proofs.E
end
section
open Go Go.Gv
attribute [local irreducible] Go.Gv.WJ Go.Gv.OpJ Go.Gv.QJ Go.Gv.Spl Go.Gv.Req Go.Gv.IdxP Go.Gv.RegP Go.Gv.FinP Go.Gv.CellP Go.Gv.CellsP Go.Gv.ArrP Go.Gv.ArrsP Go.Gv.DropP Go.Gv.ByteP Go.Gv.StoreP
set_option maxRecDepth 100000
namespace Go.Proofs.E
end Go.Proofs.E
end
section
open Go Go.Gv
attribute [local irreducible] Go.Gv.WJ Go.Gv.OpJ Go.Gv.QJ Go.Gv.Spl Go.Gv.Req Go.Gv.IdxP Go.Gv.RegP Go.Gv.FinP Go.Gv.CellP Go.Gv.CellsP Go.Gv.ArrP Go.Gv.ArrsP Go.Gv.DropP Go.Gv.ByteP Go.Gv.StoreP
set_option maxRecDepth 100000
namespace Go.Proofs.E
namespace TR
/-- No side is more than three times as heavy as the other one. -/
def okb : TR → Prop
  | .nil => True
  | .node l _ r => l.okb ∧ r.okb ∧ r.wt ≤ 3 * l.wt ∧ l.wt ≤ 3 * r.wt
theorem wt_pos (t : TR) : 0 < t.wt := by unfold wt; omega
theorem wt_nil : TR.nil.wt = 1 := rfl
theorem wt_node (l : TR) (e : EL) (r : TR) : (TR.node l e r).wt = l.wt + r.wt := by unfold wt; rw [size]; omega
theorem okb_turnL {l r : TR} (e : EL) (hl : l.okb) (hr : r.okb) (h : r.wt = 3 * l.wt + 1) : (turnL l e r).okb := by
  cases r with
  | nil => rw [wt_nil] at h; have := l.wt_pos; omega
  | node rl re rr =>
    obtain ⟨h1, h2, h3, h4⟩ := hr
    rw [wt_node] at h
    have p0 := l.wt_pos
    simp only [turnL]
    split
    · next hb =>
      have hb := blt_true hb
      exact ⟨⟨hl, h1, by omega, by omega⟩, h2, by rw [wt_node]; omega, by rw [wt_node]; omega⟩
    · next hb =>
      have hb := blt_false hb
      cases rl with
      | nil => rw [wt_nil] at hb; have := rr.wt_pos; omega
      | node ml me mr =>
        obtain ⟨m1, m2, m3, m4⟩ := h1
        rw [wt_node] at h3 h4 hb h
        exact ⟨⟨hl, m1, by omega, by omega⟩, ⟨m2, h2, by omega, by omega⟩, by rw [wt_node, wt_node]; omega, by rw [wt_node, wt_node]; omega⟩
theorem okb_turnR {l r : TR} (e : EL) (hl : l.okb) (hr : r.okb) (h : l.wt = 3 * r.wt + 1) : (turnR l e r).okb := by
  cases l with
  | nil => rw [wt_nil] at h; have := r.wt_pos; omega
  | node ll le lr =>
    obtain ⟨h1, h2, h3, h4⟩ := hl
    rw [wt_node] at h
    have p0 := r.wt_pos
    simp only [turnR]
    split
    · next hb =>
      have hb := blt_true hb
      exact ⟨h1, ⟨h2, hr, by omega, by omega⟩, by rw [wt_node]; omega, by rw [wt_node]; omega⟩
    · next hb =>
      have hb := blt_false hb
      cases lr with
      | nil => rw [wt_nil] at hb; have := ll.wt_pos; omega
      | node ml me mr =>
        obtain ⟨m1, m2, m3, m4⟩ := h2
        rw [wt_node] at h3 h4 hb h
        exact ⟨⟨h1, m1, by omega, by omega⟩, ⟨m2, hr, by omega, by omega⟩, by rw [wt_node, wt_node]; omega, by rw [wt_node, wt_node]; omega⟩
theorem okb_bal {l r : TR} (e : EL) (hl : l.okb) (hr : r.okb) (h1 : r.wt ≤ 3 * l.wt + 1) (h2 : l.wt ≤ 3 * r.wt + 1) : (bal l e r).okb := by
  unfold bal
  split
  · next hb => exact okb_turnL e hl hr (by have := blt_true hb; omega)
  · next hb =>
    split
    · next hb2 => exact okb_turnR e hl hr (by have := blt_true hb2; omega)
    · next hb2 => exact ⟨hl, hr, blt_false hb, blt_false hb2⟩
theorem okb_ins : ∀ (i : Nat) (e : EL) (t : TR), i ≤ t.size → t.okb → (ins i e t).okb
  | i, e, .nil, _, _ => ⟨trivial, trivial, by decide, by decide⟩
  | i, e, .node l x r, hi, h => by
    obtain ⟨h1, h2, h3, h4⟩ := h
    simp only [size] at hi
    simp only [ins]
    split
    · next hb =>
      have hb := Nat.le_of_ble_eq_true hb
      have hz := size_ins i e l hb
      have hw : (ins i e l).wt = l.wt + 1 := by unfold wt; omega
      exact okb_bal x (okb_ins i e l hb h1) h2 (by omega) (by omega)
    · next hb =>
      have hb := ble_false hb
      have hz := size_ins (i - l.size - 1) e r (by omega)
      have hw : (ins (i - l.size - 1) e r).wt = r.wt + 1 := by unfold wt; omega
      exact okb_bal x h1 (okb_ins _ e r (by omega) h2) (by omega) (by omega)
theorem okb_set : ∀ (i : Nat) (e : EL) (t : TR), i < t.size → t.okb → (set i e t).okb
  | i, e, .nil, hi, _ => by simp [size] at hi
  | i, e, .node l x r, hi, h => by
    obtain ⟨h1, h2, h3, h4⟩ := h
    simp only [size] at hi
    simp only [set]
    split
    · next hb =>
      have hb := blt_true hb
      have hz := size_set i e l hb
      have hw : (set i e l).wt = l.wt := by unfold wt; omega
      exact ⟨okb_set i e l hb h1, h2, by omega, by omega⟩
    · next hb =>
      have hb := blt_false hb
      split
      · next hb2 =>
        have hb2 := blt_true hb2
        have hz := size_set (i - l.size - 1) e r (by omega)
        have hw : (set (i - l.size - 1) e r).wt = r.wt := by unfold wt; omega
        exact ⟨h1, okb_set _ e r (by omega) h2, by omega, by omega⟩
      · exact ⟨h1, h2, h3, h4⟩
end TR
theorem okb_insT {t : TR} (i : Int) (e : EL) (h : t.okb) : (insT t i e).okb := by
  unfold insT
  split
  · next hi => exact TR.okb_ins _ _ _ (by omega) h
  · exact h
theorem okb_setT {t : TR} (i : Int) (e : EL) (h : t.okb) : (setT t i e).okb := by
  unfold setT
  split
  · next hi =>
    obtain ⟨h1, h2⟩ := hasT_iff hi
    exact TR.okb_set _ _ _ (by omega) h
  · exact h
end Go.Proofs.E
end
section
open Go Go.Gv
attribute [local irreducible] Go.Gv.WJ Go.Gv.OpJ Go.Gv.QJ Go.Gv.Spl Go.Gv.Req Go.Gv.IdxP Go.Gv.RegP Go.Gv.FinP Go.Gv.CellP Go.Gv.CellsP Go.Gv.ArrP Go.Gv.ArrsP Go.Gv.DropP Go.Gv.ByteP Go.Gv.StoreP
set_option maxRecDepth 100000
namespace Go.Proofs.E
attribute [local irreducible] elems
structure SS where
  t : TR
  p : PT
  n : Int
abbrev stv (s : SS) : AV := .agg [.d s.t.d, .d s.p.d, iv s.n]
/-- A state stands for the operations that were applied. -/
structure isS (s : SS) (l : List OP) : Prop where
  dn : Dn l
  els : s.t.els = rowE l
  bal : s.t.okb
  mp : ∃ M, isM s.p s.n M ∧ (∀ a, alook a M = entO l a) ∧ M.length = (insL l).length
theorem isS.size {s : SS} {l : List OP} (h : isS s l) : s.t.size = (insL l).length := by rw [← TR.els_len, h.els, row_len h.dn]
theorem isS.small {s : SS} {l : List OP} (h : isS s l) : s.t.size ≤ 4096 := by rw [h.size]; exact h.dn.is.len
theorem GetS_c {s : SS} {l : List OP} (h : isS s l) (a : ID) : Cv 141 [mapv s.p s.n, idv a] (getv (entO l a)) := by
  obtain ⟨M, h1, h2, _⟩ := h.mp
  rw [← h2]
  exact GetIs_c h1 a
theorem ent_some {l : List OP} {a : ID} : (entO l a).isSome = (findO 0 a l).isSome := by unfold entO; rw [Option.isSome_map]
theorem Has_c {s : SS} {l : List OP} (h : isS s l) (a : ID) : Cv 113 [stv s, idv a] (bv (findO 0 a l).isSome) := by
  have hg := GetS_c h a
  rw [← ent_some]
  cases he : entO l a with
  | none =>
    rw [he] at hg
    refine Ct.of_vc Tryz.f113 Tryz.func113 rfl rfl fun w H B g0 => ?_
    refine OpJ.callV hg (fun _ _ => rfl) rfl rfl rfl ?_
    (repeat (first | refine Spl.t rfl ?_ | refine Spl.f rfl ?_))
    exact FinP.open rfl rfl
  | some e =>
    rw [he] at hg
    refine Ct.of_vc Tryz.f113 Tryz.func113 rfl rfl fun w H B g0 => ?_
    refine OpJ.callV hg (fun _ _ => rfl) rfl rfl rfl ?_
    (repeat (first | refine Spl.t rfl ?_ | refine Spl.f rfl ?_))
    exact FinP.open rfl rfl
theorem okE_of {l : List OP} (h : Dn l) : ∀ e, e ∈ rowE l → okE e := fun e he => by
  obtain ⟨o, ho, rfl⟩ := (row_mem h).1 he
  obtain ⟨h1, h2⟩ := mem_insL.1 ho
  rcases (checkO_0 (h.is.ok o h1)).2 with ⟨h3, _⟩ | ⟨_, _, h4, h5⟩
  · omega
  · unfold okE elO; simp only; omega
theorem Find_c {s : SS} {l : List OP} (h : isS s l) (a : ID) : Cv 70 [stv s, idv a] (.tup [iv (placeL a (rowE l)), bv (decide (0 ≤ placeL a (rowE l)))]) := by
  have hs := h.small
  have it := tall_iter s.t (by omega)
  rw [h.els] at it
  refine Ct.of_wv Tryz.f70 Tryz.func70 rfl rfl fun w H B g0 => ?_
  try refine WJ.cut ?_
  (first | refine Sq.go ?_ | refine vL_nil (Sq.go ?_) | skip)
  try refine WJ.cut ?_
  refine OpJ.callV (Has_c h a) (fun _ _ => rfl) rfl rfl rfl ?_
  refine Spl.of (fun h1 => ?_) (fun h1 => ?_)
  · have h1 : (findO 0 a l).isSome = false := by simpa using h1
    have h2 := place_has h.dn a
    rw [h1] at h2
    have h3 : placeL a (rowE l) = -1 := by
      have := of_decide_eq_false h2
      have := placeL_ge a (rowE l)
      omega
    (repeat (first | refine Spl.t rfl ?_ | refine Spl.f rfl ?_))
    refine .out (by simp) ?_
    refine FinP.open rfl ?_
    rw [h3]; rfl
  · have h1 : (findO 0 a l).isSome = true := by simpa using h1
    have h2 := place_has h.dn a
    rw [h1] at h2
    have h3 := of_decide_eq_true h2
    (repeat (first | refine Spl.t rfl ?_ | refine Spl.f rfl ?_))
    (first | refine Sq.go ?_ | refine vL_nil (Sq.go ?_) | skip)
    try refine WJ.cut ?_
    refine OpJ.callV (TAll_c s.t) (fun _ _ => rfl) rfl rfl rfl ?_
    refine WJ.rangeK itA (itsL 0 (rowE l)) (V := Int × Bool) (fun v => [(4, .cells [iv v.1]), (5, .cells [bv v.2])]) [4, 5] (fun pre v => v = (0, false) ∧ ∀ x, x ∈ pre → x.2.id ≠ a) (fun c _ v => c = .ret ∧ v = (placeL a (rowE l), true)) (0, false) it rfl rfl (.fn _ _) rfl (fun _ _ => rfl) rfl rfl (fun _ => rfl) (by repeat' (first | exact trivial | exact rfl | refine And.intro ?_ ?_)) ⟨rfl, by simp⟩ ?_ ?_ ?_
    · intro l0 pre x post v hL hI w0 H0 B0 g1
      obtain ⟨rfl, hI⟩ := hI
      intro w0 H0 B0 g1
      have hget : (itsL 0 (rowE l))[pre.length]? = some x := by rw [hL]; simp
      rw [itsL_get] at hget
      obtain ⟨e, he⟩ : ∃ e, (rowE l)[pre.length]? = some e := by
        cases hz : (rowE l)[pre.length]? with
        | none => rw [hz] at hget; cases hget
        | some e => exact ⟨e, rfl⟩
      rw [he] at hget
      have hxe : x = (pre.length, e) := by simpa using hget.symm
      have hpre : ∀ j y, j < pre.length → (rowE l)[j]? = some y → y.id ≠ a := fun j y hj hy => by
        have h5 : (itsL 0 (rowE l))[j]? = some (j, y) := by rw [itsL_get, hy]; simp
        rw [hL, List.getElem?_append_left hj] at h5
        exact hI _ (List.mem_of_getElem? h5)
      subst hxe
      refine OpJ.qu (O.eqT 3 rfl rfl rfl rfl rfl eqI_ok eqI_g (eqI e.id a)) rfl ?_
      refine Spl.of (fun h4 => ?_) (fun h4 => ?_)
      · have h4 : e.id = a := of_decide_eq_true h4
        have hp := placeL_at he h4 hpre
        (repeat (first | refine Spl.t rfl ?_ | refine Spl.f rfl ?_))
        exact ⟨(placeL a (rowE l), true), ⟨rfl, rfl⟩, ⟨congrArg (fun z : Int => some (Ent.cells [iv z])) hp.symm, (by repeat' (first | exact trivial | exact rfl | refine And.intro ?_ ?_))⟩⟩
      · have h4 : ¬ e.id = a := of_decide_eq_false h4
        (repeat (first | refine Spl.t rfl ?_ | refine Spl.f rfl ?_))
        exact ⟨(0, false), ⟨rfl, fun y hy => by rcases List.mem_append.1 hy with hy | hy; exact hI y hy; rw [List.mem_singleton.1 hy]; exact h4⟩, (by repeat' (first | exact trivial | exact rfl | refine And.intro ?_ ?_))⟩
    · rintro v ⟨rfl, hI⟩
      exfalso
      obtain ⟨e, h4, h5, _⟩ := placeL_get h3
      have h6 : (itsL 0 (rowE l))[(placeL a (rowE l)).toNat]? = some (0 + (placeL a (rowE l)).toNat, e) := by rw [itsL_get, h4]; rfl
      exact hI _ (List.mem_of_getElem? h6) h5
    · rintro c p v ⟨rfl, rfl⟩
      refine .out (by simp) ?_
      refine FinP.open rfl ?_
      rw [decide_eq_true h3]; rfl
theorem atT_row {s : SS} {l : List OP} (h : isS s l) (k : Nat) : atT s.t (k : Int) = (rowE l)[k]? := by
  unfold atT; rw [if_pos (by omega), Int.toNat_natCast, h.els]
theorem posAt_place (f : OP → EL) (hf : ∀ x, (f x).id = x.i) (o : OP) : ∀ L : List OP, 0 ≤ placeL o.a (L.map f) → posAt o L = (placeL o.a (L.map f)).toNat + 1 + pos1 o (L.drop ((placeL o.a (L.map f)).toNat + 1))
  | [], h => by simp [placeL] at h
  | x :: r, h => by
    rw [List.map_cons, placeL] at h ⊢
    rw [posAt]
    by_cases e : x.i = o.a
    · rw [if_pos e, if_pos (by rw [hf]; exact e)]; simp; omega
    · rw [if_neg e, if_neg (by rw [hf]; exact e)]
      rw [if_neg (by rw [hf]; exact e)] at h
      by_cases e2 : placeL o.a (r.map f) < 0
      · rw [if_pos e2] at h; omega
      · rw [if_neg e2, posAt_place f hf o r (by omega), show (placeL o.a (r.map f) + 1).toNat = (placeL o.a (r.map f)).toNat + 1 by omega, List.drop_succ_cons]; omega
theorem place_none {l : List OP} (h : Dn l) : placeL ⟨0, 0⟩ (rowE l) = -1 := placeL_none fun e he e2 => by
  obtain ⟨o, ho, rfl⟩ := (row_mem h).1 he
  have := h.is.tk.is.c0 o ho
  have e3 : o.i = ⟨0, 0⟩ := e2
  rw [e3] at this; simp at this
theorem place_c {s : SS} {l : List OP} (h : isS s l) {o : OP} (hw : wrongO l o = 0) (hk : o.k = 0) : Cv 145 [stv s, opv o] (iv (posO l o)) := by
  have hs := h.small
  have hle := posO_le h.dn hw hk
  have hlen := row_len h.dn
  have hll := h.dn.is.len
  obtain ⟨hc, h1⟩ := wrong_0 hw
  obtain ⟨hnew, ha⟩ : findO 0 o.i l = none ∧ (o.a = ⟨0, 0⟩ ∨ (findO 0 o.a l).isSome = true) := by
    rcases h1 with ⟨h1, _⟩ | ⟨_, h2, h3, _⟩
    · omega
    · exact ⟨h2, h3⟩
  have start : (placeL o.a (rowE l) < 0 → o.a = ⟨0, 0⟩ ∧ 0 + pos1 o (folR (insL l)) = posO l o) ∧ (0 ≤ placeL o.a (rowE l) → (placeL o.a (rowE l)).toNat + 1 + pos1 o ((folR (insL l)).drop ((placeL o.a (rowE l)).toNat + 1)) = posO l o) := by
    refine ⟨fun hlt => ?_, fun hge => ?_⟩
    · have : o.a = ⟨0, 0⟩ := by
        rcases ha with ha | ha
        · exact ha
        · rw [← place_has h.dn] at ha
          have := of_decide_eq_true ha; omega
      refine ⟨this, ?_⟩
      unfold posO posR; rw [if_pos this, Nat.zero_add]
    · have : o.a ≠ ⟨0, 0⟩ := fun e => by rw [e, place_none h.dn] at hge; omega
      unfold posO posR; rw [if_neg this]
      exact (posAt_place (elO l) (fun _ => rfl) o _ hge).symm
  have hlp := placeL_lt o.a (rowE l)
  have hgp := placeL_ge o.a (rowE l)
  have stopN : ∀ k : Nat, k ≤ (rowE l).length → k + pos1 o ((folR (insL l)).drop k) = posO l o → (rowE l)[k]? = none → (k : Int) = posO l o := fun k hkl hpos hr => by
    have hkeq : k = (rowE l).length := by have := List.getElem?_eq_none_iff.1 hr; omega
    rw [← hpos, List.drop_eq_nil_of_le (by rw [h.dn.is.tk.is.len]; omega)]; rfl
  have stepN : ∀ (k : Nat) (e : EL), k + pos1 o ((folR (insL l)).drop k) = posO l o → (rowE l)[k]? = some e → (lessI e.id o.i = true → (k : Int) = posO l o) ∧ (lessI e.id o.i = false → k + 1 ≤ (rowE l).length ∧ k + 1 + pos1 o ((folR (insL l)).drop (k + 1)) = posO l o) := fun k e hpos hr => by
    obtain ⟨x, hx, hxe⟩ : ∃ x, (folR (insL l))[k]? = some x ∧ elO l x = e := by
      unfold rowE at hr
      rw [List.getElem?_map] at hr
      cases hz : (folR (insL l))[k]? with
      | none => rw [hz] at hr; cases hr
      | some x => rw [hz] at hr; exact ⟨x, rfl, Option.some.inj hr⟩
    have hxi : e.id = x.i := by rw [← hxe]; rfl
    have hd : (folR (insL l)).drop k = x :: (folR (insL l)).drop (k + 1) := by
      have hlt := (List.getElem?_eq_some_iff.1 hx).1
      rw [List.drop_eq_getElem_cons hlt]; congr 1; exact (List.getElem?_eq_some_iff.1 hx).2
    have hklt : k < (rowE l).length := (List.getElem?_eq_some_iff.1 hr).1
    have hxl := mem_insL.1 ((h.dn.is.tk.is.mem x).1 (List.mem_of_getElem? hx))
    have hne : x.i ≠ o.i := findO_none hnew x hxl.1 hxl.2
    rw [hd, pos1] at hpos
    refine ⟨fun h5 => ?_, fun h5 => ?_⟩
    · have hn : ¬ lessI o.i x.i = true := fun h6 => less_irr _ (less_tr h6 (hxi ▸ h5))
      rw [if_neg hn] at hpos; omega
    · have hn : lessI o.i x.i = true := less_tot (by rw [← hxi, h5]; decide) hne
      rw [if_pos hn] at hpos
      exact ⟨by omega, by omega⟩
  refine Ct.of_wv Tryz.f145 Tryz.func145 rfl rfl fun w H B g0 => ?_
  try refine WJ.cut ?_
  (first | refine Sq.go ?_ | refine vL_nil (Sq.go ?_) | skip)
  try refine WJ.cut ?_
  (first | refine Sq.go ?_ | refine vL_nil (Sq.go ?_) | skip)
  try refine WJ.cut ?_
  refine OpJ.callV (Find_c h o.a) (fun _ _ => rfl) rfl rfl rfl ?_
  (first | refine Sq.go ?_ | refine vL_nil (Sq.go ?_) | skip)
  try refine WJ.cut ?_
  refine Spl.of (fun h1 => ?_) (fun h1 => ?_)
  · have h1 := of_decide_eq_true h1
    have hK0 := start.2 h1
    have e1 : IntKind.i64.wrap (placeL o.a (rowE l) + 1) = (((placeL o.a (rowE l)).toNat + 1 : Nat) : Int) := by rw [wrap_id _ (by omega) (by omega)]; omega
    (repeat (first | refine Spl.t rfl ?_ | refine Spl.f rfl ?_))
    (first | refine Sq.go ?_ | refine vL_nil (Sq.go ?_) | skip)
    try refine vc_sound _ _ _ _ ?_
    refine WJ.loopK (V := Nat) (fun k => [(5, iv k)]) (fun _ => []) [] (fun k => (rowE l).length + 1 - k) (fun k => k ≤ (rowE l).length ∧ k + pos1 o ((folR (insL l)).drop k) = posO l o) ((placeL o.a (rowE l)).toNat + 1) ⟨by omega, hK0⟩ ⟨some_iv e1, trivial⟩ (by repeat' (first | exact trivial | exact rfl | refine And.intro ?_ ?_)) ?_
    (rintro k ⟨hkl, hpos⟩; obtain ⟨r, hr⟩ : ∃ r, atT s.t ((k : Nat) : Int) = r := ⟨_, rfl⟩; have hat := At_c s.t (k : Int) (by omega); rw [hr] at hat; rw [atT_row h] at hr; rcases r with _ | e; (have hfin := stopN k hkl hpos hr; refine OpJ.callV hat (fun _ _ => rfl) rfl rfl rfl ?_; (repeat (first | refine Spl.t rfl ?_ | refine Spl.f rfl ?_)); exact FinP.open rfl (congrArg iv hfin)); (obtain ⟨s1, s2⟩ := stepN k e hpos hr; refine OpJ.callV hat (fun _ _ => rfl) rfl rfl rfl ?_; (repeat (first | refine Spl.t rfl ?_ | refine Spl.f rfl ?_)); refine OpJ.callV (Less_c e.id o.i) (fun _ _ => rfl) rfl rfl rfl ?_; (repeat (first | refine Spl.t rfl ?_ | refine Spl.f rfl ?_)); refine Spl.of (fun h5 => ?_) (fun h5 => ?_); (have hfin := s1 h5; (repeat (first | refine Spl.t rfl ?_ | refine Spl.f rfl ?_)); exact FinP.open rfl (congrArg iv hfin)); (obtain ⟨s3, s4⟩ := s2 h5; (repeat (first | refine Spl.t rfl ?_ | refine Spl.f rfl ?_)); exact ⟨k + 1, ⟨s3, s4⟩, by omega, ⟨some_iv (wrap_id _ (by omega) (by omega)), trivial⟩, (by repeat' (first | exact trivial | exact rfl | refine And.intro ?_ ?_)), (by repeat' (first | exact trivial | exact rfl | refine And.intro ?_ ?_)), (by repeat' (first | exact trivial | exact rfl | refine And.intro ?_ ?_))⟩)))
  · have h1 := of_decide_eq_false h1
    have hK0 := (start.1 (by omega)).2
    (repeat (first | refine Spl.t rfl ?_ | refine Spl.f rfl ?_))
    (first | refine Sq.go ?_ | refine vL_nil (Sq.go ?_) | skip)
    try refine vc_sound _ _ _ _ ?_
    refine WJ.loopK (V := Nat) (fun k => [(5, iv k)]) (fun _ => []) [] (fun k => (rowE l).length + 1 - k) (fun k => k ≤ (rowE l).length ∧ k + pos1 o ((folR (insL l)).drop k) = posO l o) 0 ⟨by omega, hK0⟩ (by repeat' (first | exact trivial | exact rfl | refine And.intro ?_ ?_)) (by repeat' (first | exact trivial | exact rfl | refine And.intro ?_ ?_)) ?_
    (rintro k ⟨hkl, hpos⟩; obtain ⟨r, hr⟩ : ∃ r, atT s.t ((k : Nat) : Int) = r := ⟨_, rfl⟩; have hat := At_c s.t (k : Int) (by omega); rw [hr] at hat; rw [atT_row h] at hr; rcases r with _ | e; (have hfin := stopN k hkl hpos hr; refine OpJ.callV hat (fun _ _ => rfl) rfl rfl rfl ?_; (repeat (first | refine Spl.t rfl ?_ | refine Spl.f rfl ?_)); exact FinP.open rfl (congrArg iv hfin)); (obtain ⟨s1, s2⟩ := stepN k e hpos hr; refine OpJ.callV hat (fun _ _ => rfl) rfl rfl rfl ?_; (repeat (first | refine Spl.t rfl ?_ | refine Spl.f rfl ?_)); refine OpJ.callV (Less_c e.id o.i) (fun _ _ => rfl) rfl rfl rfl ?_; (repeat (first | refine Spl.t rfl ?_ | refine Spl.f rfl ?_)); refine Spl.of (fun h5 => ?_) (fun h5 => ?_); (have hfin := s1 h5; (repeat (first | refine Spl.t rfl ?_ | refine Spl.f rfl ?_)); exact FinP.open rfl (congrArg iv hfin)); (obtain ⟨s3, s4⟩ := s2 h5; (repeat (first | refine Spl.t rfl ?_ | refine Spl.f rfl ?_)); exact ⟨k + 1, ⟨s3, s4⟩, by omega, ⟨some_iv (wrap_id _ (by omega) (by omega)), trivial⟩, (by repeat' (first | exact trivial | exact rfl | refine And.intro ?_ ?_)), (by repeat' (first | exact trivial | exact rfl | refine And.intro ?_ ?_)), (by repeat' (first | exact trivial | exact rfl | refine And.intro ?_ ?_))⟩)))
end Go.Proofs.E
end
section
open Go Go.Gv
attribute [local irreducible] Go.Gv.WJ Go.Gv.OpJ Go.Gv.QJ Go.Gv.Spl Go.Gv.Req Go.Gv.IdxP Go.Gv.RegP Go.Gv.FinP Go.Gv.CellP Go.Gv.CellsP Go.Gv.ArrP Go.Gv.ArrsP Go.Gv.DropP Go.Gv.ByteP Go.Gv.StoreP
set_option maxRecDepth 100000
namespace Go.Proofs.E
attribute [local irreducible] elems
theorem id_of {x o : OP} (h1 : x.k = o.k) (h2 : x.i = o.i) (h3 : x.a = o.a) (h4 : x.ch = o.ch) : x = o := by
  obtain ⟨a, b, c, d⟩ := x
  obtain ⟨a', b', c', d'⟩ := o
  simp_all
theorem wrongI_c {s : SS} {l : List OP} (h : isS s l) {o : OP} (hc : checkO o = 0) (hk : o.k = 0) : Cv 144 [stv s, opv o] (iv (wrongO l o)) := by
  have hg := GetS_c h o.i
  have hw : wrongO l o = if findO 0 o.i l = some o then 4 else if (findO 0 o.i l).isSome = true then 5 else if o.a ≠ ⟨0, 0⟩ ∧ (findO 0 o.a l).isSome = false then 6 else if 4096 ≤ (insL l).length then 7 else 0 := by
    unfold wrongO; rw [if_neg (fun e => e hc), if_neg (by omega)]
  have hn : noneI o.a = decide (o.a = ⟨0, 0⟩) := by
    unfold noneI
    obtain ⟨a, b⟩ := o.a
    exact decide_eq_decide.2 ⟨fun h => by simp only at h; rw [h.1, h.2], fun h => by cases h; simp⟩
  cases hf : findO 0 o.i l with
  | some x =>
    obtain ⟨x1, x2, x3⟩ := findO_some hf
    have he : entO l o.i = some ⟨x.a, x.ch, deadO l o.i⟩ := by unfold entO; rw [hf]; rfl
    rw [he] at hg
    rw [hf] at hw
    refine Ct.of_vc Tryz.f144 Tryz.func144 rfl rfl fun w H B g0 => ?_
    refine OpJ.callV hg (fun _ _ => rfl) rfl rfl rfl ?_
    (repeat (first | refine Spl.t rfl ?_ | refine Spl.f rfl ?_))
    refine OpJ.qu (O.eqT 3 rfl rfl rfl rfl rfl eqI_ok eqI_g (eqI x.a o.a)) rfl ?_
    refine Spl.of (fun h1 => ?_) (fun h1 => ?_)
    · have h1 := of_decide_eq_true h1
      (repeat (first | refine Spl.t rfl ?_ | refine Spl.f rfl ?_))
      refine Spl.of (fun h2 => ?_) (fun h2 => ?_)
      · have h2 := of_decide_eq_true h2
        (repeat (first | refine Spl.t rfl ?_ | refine Spl.f rfl ?_))
        refine FinP.open rfl (congrArg iv ?_)
        rw [hw, if_pos (by rw [id_of (x2.trans hk.symm) x3 h1 h2])]
      · have h2 := of_decide_eq_false h2
        (repeat (first | refine Spl.t rfl ?_ | refine Spl.f rfl ?_))
        refine FinP.open rfl (congrArg iv ?_)
        rw [hw, if_neg (fun e => h2 (by rw [Option.some.inj e]))]; simp
    · have h1 := of_decide_eq_false h1
      (repeat (first | refine Spl.t rfl ?_ | refine Spl.f rfl ?_))
      refine FinP.open rfl (congrArg iv ?_)
      rw [hw, if_neg (fun e => h1 (by rw [Option.some.inj e]))]; simp
  | none =>
    have he : entO l o.i = none := by unfold entO; rw [hf]; rfl
    rw [he] at hg
    rw [hf, if_neg (by simp), if_neg (by simp)] at hw
    have hlen : ((s.t.size : Nat) : Int) = ((insL l).length : Int) := by rw [h.size]
    refine Ct.of_vc Tryz.f144 Tryz.func144 rfl rfl fun w H B g0 => ?_
    refine OpJ.callV hg (fun _ _ => rfl) rfl rfl rfl ?_
    (repeat (first | refine Spl.t rfl ?_ | refine Spl.f rfl ?_))
    refine OpJ.callV (None_c o.a) (fun _ _ => rfl) rfl rfl rfl ?_
    (repeat (first | refine Spl.t rfl ?_ | refine Spl.f rfl ?_))
    rw [hn]
    refine Spl.of (fun h3 => ?_) (fun h3 => ?_)
    · have h3 : o.a ≠ ⟨0, 0⟩ := by simpa using h3
      (repeat (first | refine Spl.t rfl ?_ | refine Spl.f rfl ?_))
      refine OpJ.callV (Has_c h o.a) (fun _ _ => rfl) rfl rfl rfl ?_
      (repeat (first | refine Spl.t rfl ?_ | refine Spl.f rfl ?_))
      refine Spl.of (fun h4 => ?_) (fun h4 => ?_)
      · have h4 : (findO 0 o.a l).isSome = false := by simpa using h4
        (repeat (first | refine Spl.t rfl ?_ | refine Spl.f rfl ?_))
        refine FinP.open rfl (congrArg iv ?_)
        rw [hw, if_pos ⟨h3, h4⟩]
      · have h4 : (findO 0 o.a l).isSome = true := by simpa using h4
        have hno : ¬ (o.a ≠ ⟨0, 0⟩ ∧ (findO 0 o.a l).isSome = false) := fun e => by rw [h4] at e; cases e.2
        ((repeat (first | refine Spl.t rfl ?_ | refine Spl.f rfl ?_)); refine OpJ.callV (TLen_c s.t) (fun _ _ => rfl) rfl rfl rfl ?_; refine Spl.of (fun h5 => ?_) (fun h5 => ?_); (have h5 := of_decide_eq_true h5; (repeat (first | refine Spl.t rfl ?_ | refine Spl.f rfl ?_)); refine FinP.open rfl (congrArg iv ?_); rw [hw, if_neg hno, if_pos (by omega)]); (have h5 := of_decide_eq_false h5; (repeat (first | refine Spl.t rfl ?_ | refine Spl.f rfl ?_)); refine FinP.open rfl (congrArg iv ?_); rw [hw, if_neg hno, if_neg (by omega)]))
    · have h3 : o.a = ⟨0, 0⟩ := by simpa using h3
      have hno : ¬ (o.a ≠ ⟨0, 0⟩ ∧ (findO 0 o.a l).isSome = false) := fun e => e.1 h3
      ((repeat (first | refine Spl.t rfl ?_ | refine Spl.f rfl ?_)); refine OpJ.callV (TLen_c s.t) (fun _ _ => rfl) rfl rfl rfl ?_; refine Spl.of (fun h5 => ?_) (fun h5 => ?_); (have h5 := of_decide_eq_true h5; (repeat (first | refine Spl.t rfl ?_ | refine Spl.f rfl ?_)); refine FinP.open rfl (congrArg iv ?_); rw [hw, if_neg hno, if_pos (by omega)]); (have h5 := of_decide_eq_false h5; (repeat (first | refine Spl.t rfl ?_ | refine Spl.f rfl ?_)); refine FinP.open rfl (congrArg iv ?_); rw [hw, if_neg hno, if_neg (by omega)]))
def insS (s : SS) (l : List OP) (o : OP) : SS := ⟨insT s.t (posO l o) ⟨o.i, o.ch, false⟩, PT.put 8 (keyI o.i) ⟨o.a, o.ch, false⟩ s.p, nPut s.p s.n o.i⟩
theorem insS_is {s : SS} {l : List OP} (h : isS s l) {o : OP} (hw : wrongO l o = 0) (hk : o.k = 0) : isS (insS s l o) (l ++ [o]) := by
  have hle := posO_le h.dn hw hk
  obtain ⟨hc, h1⟩ := wrong_0 hw
  have hnew : findO 0 o.i l = none := by
    rcases h1 with ⟨h1, _⟩ | ⟨_, h2, _⟩
    · omega
    · exact h2
  have hm := (checkO_0 hc).1
  refine ⟨.snoc h.dn hw, ?_, okb_insT _ _ h.bal, ?_⟩
  · have hsz : posO l o ≤ s.t.size := by rw [← TR.els_len, h.els]; exact hle
    show (insT s.t ((posO l o : Nat) : Int) ⟨o.i, o.ch, false⟩).els = _
    rw [insT, if_pos ⟨by omega, by omega⟩, Int.toNat_natCast, TR.els_ins _ _ _ hsz, h.els, row_ins h.dn hw hk]
  · obtain ⟨M, m1, m2, m3⟩ := h.mp
    refine ⟨insM o.i ⟨o.a, o.ch, false⟩ M, isM_put m1 hm _, fun a => ?_, ?_⟩
    · rw [alook_insM m1.up, ent_ins h.dn hw hk, m2]
    · rw [len_insM m1.up, m2, show entO l o.i = none by unfold entO; rw [hnew]; rfl, insL_snoc0 hk, List.length_append, m3]; simp
theorem insert_c {s : SS} {l : List OP} (h : isS s l) {o : OP} (hw : wrongO l o = 0) (hk : o.k = 0) : Cv 96 [stv s, opv o] (.tup [stv (insS s l o), iv (posO l o), iv 0]) := by
  obtain ⟨hc, h1⟩ := wrong_0 hw
  have hm := (checkO_0 hc).1
  have hwi := wrongI_c h hc hk
  rw [hw] at hwi
  obtain ⟨M, m1, m2, m3⟩ := h.mp
  have hll := h.dn.is.len
  have hle := posO_le h.dn hw hk
  have hi := Insert_c s.t (posO l o) ⟨o.i, o.ch, false⟩ (by have := h.small; omega)
  have hp := PutIs_c m1 (by omega) o.i ⟨o.a, o.ch, false⟩ hm
  refine Ct.of_wv Tryz.f96 Tryz.func96 rfl rfl fun w H B g0 => ?_
  try refine WJ.cut ?_
  (first | refine Sq.go ?_ | refine vL_nil (Sq.go ?_) | skip)
  try refine WJ.cut ?_
  refine OpJ.callV hwi (fun _ _ => rfl) rfl rfl rfl ?_
  (first | refine Sq.go ?_ | refine vL_nil (Sq.go ?_) | skip)
  try refine WJ.cut ?_
  (repeat (first | refine Spl.t rfl ?_ | refine Spl.f rfl ?_))
  (first | refine Sq.go ?_ | refine vL_nil (Sq.go ?_) | skip)
  try refine WJ.cut ?_
  refine OpJ.callV (place_c h hw hk) (fun _ _ => rfl) rfl rfl rfl ?_
  (first | refine Sq.go ?_ | refine vL_nil (Sq.go ?_) | skip)
  try refine WJ.cut ?_
  refine OpJ.callV hi (fun _ _ => rfl) rfl rfl rfl ?_
  (first | refine Sq.go ?_ | refine vL_nil (Sq.go ?_) | skip)
  try refine WJ.cut ?_
  refine OpJ.callV hp (fun _ _ => rfl) rfl rfl rfl ?_
  (first | refine Sq.go ?_ | refine vL_nil (Sq.go ?_) | skip)
  try refine vc_sound _ _ _ _ ?_
  exact FinP.open rfl rfl
theorem insertNo_c {s : SS} {l : List OP} (h : isS s l) {o : OP} (hc : checkO o = 0) (hw : wrongO l o ≠ 0) (hk : o.k = 0) : Cv 96 [stv s, opv o] (.tup [stv s, iv (-1), iv (wrongO l o)]) := by
  have hwi := wrongI_c h hc hk
  refine Ct.of_wv Tryz.f96 Tryz.func96 rfl rfl fun w H B g0 => ?_
  try refine WJ.cut ?_
  (first | refine Sq.go ?_ | refine vL_nil (Sq.go ?_) | skip)
  try refine WJ.cut ?_
  refine OpJ.callV hwi (fun _ _ => rfl) rfl rfl rfl ?_
  (first | refine Sq.go ?_ | refine vL_nil (Sq.go ?_) | skip)
  try refine WJ.cut ?_
  refine Spl.t (by simpa using hw) ?_
  (repeat (first | refine Spl.t rfl ?_ | refine Spl.f rfl ?_))
  refine .out (by simp) ?_
  exact FinP.open rfl rfl
def delE (l : List OP) (o : OP) : EN := (entO l o.i).getD EN.zero
def delS (s : SS) (l : List OP) (o : OP) : SS := ⟨setT s.t (placeL o.i (rowE l)) ⟨o.i, (delE l o).ch, true⟩, PT.put 8 (keyI o.i) ⟨(delE l o).a, (delE l o).ch, true⟩ s.p, nPut s.p s.n o.i⟩
theorem delS_is {s : SS} {l : List OP} (h : isS s l) {o : OP} (hw : wrongO l o = 0) (hk : o.k = 1) : isS (delS s l o) (l ++ [o]) := by
  obtain ⟨hc, h1⟩ := wrong_0 hw
  have hm := (checkO_0 hc).1
  obtain ⟨n, ch, d1, d2, d3, d4, d5⟩ := row_del h.dn hw hk
  have hde : delE l o = ⟨((findO 0 o.i l).map (·.a)).getD ⟨0, 0⟩, ch, false⟩ := by unfold delE; rw [d3]; rfl
  refine ⟨.snoc h.dn hw, ?_, okb_setT _ _ h.bal, ?_⟩
  · have hlt : n < s.t.size := by rw [← TR.els_len, h.els]; exact (List.getElem?_eq_some_iff.1 d2).1
    show (setT s.t (placeL o.i (rowE l)) ⟨o.i, (delE l o).ch, true⟩).els = _
    rw [d1, setT, if_pos (show hasT s.t (n : Int) = true from decide_eq_true ⟨by omega, by omega⟩), Int.toNat_natCast, TR.els_set _ _ _ hlt, h.els, d4, hde]
  · obtain ⟨M, m1, m2, m3⟩ := h.mp
    refine ⟨insM o.i ⟨(delE l o).a, (delE l o).ch, true⟩ M, isM_put m1 hm _, fun a => ?_, ?_⟩
    · rw [alook_insM m1.up, ent_del hk, m2]
      by_cases e : a = o.i
      · rw [if_pos e, if_pos e, e, d3, hde]; rfl
      · rw [if_neg e, if_neg e]
    · rw [len_insM m1.up, m2, d3, insL_snoc1 (by omega), m3]; rfl
theorem remove_c {s : SS} {l : List OP} (h : isS s l) {o : OP} (hw : wrongO l o = 0) (hk : o.k = 1) : Cv 95 [stv s, opv o] (.tup [stv (delS s l o), iv (placeL o.i (rowE l)), iv 0]) := by
  obtain ⟨hc, h1⟩ := wrong_0 hw
  have hm := (checkO_0 hc).1
  obtain ⟨n, ch, d1, d2, d3, d4, d5⟩ := row_del h.dn hw hk
  have hg := GetS_c h o.i
  have hde : delE l o = ⟨((findO 0 o.i l).map (·.a)).getD ⟨0, 0⟩, ch, false⟩ := by unfold delE; rw [d3]; rfl
  rw [d3, ← hde] at hg
  obtain ⟨M, m1, m2, m3⟩ := h.mp
  have hll := h.dn.is.len
  have hi := Set_c s.t (placeL o.i (rowE l)) ⟨o.i, (delE l o).ch, true⟩ (by have := h.small; omega)
  have hp := PutIs_c m1 (by omega) o.i ⟨(delE l o).a, (delE l o).ch, true⟩ hm
  have hdd : (delE l o).dead = false := by rw [hde]
  have hf := Find_c h o.i
  refine Ct.of_wv Tryz.f95 Tryz.func95 rfl rfl fun w H B g0 => ?_
  try refine WJ.cut ?_
  (first | refine Sq.go ?_ | refine vL_nil (Sq.go ?_) | skip)
  try refine WJ.cut ?_
  refine OpJ.callV hg (fun _ _ => rfl) rfl rfl rfl ?_
  (first | refine Sq.go ?_ | refine vL_nil (Sq.go ?_) | skip)
  try refine WJ.cut ?_
  (repeat (first | refine Spl.t rfl ?_ | refine Spl.f rfl ?_))
  refine Spl.f hdd ?_
  (first | refine Sq.go ?_ | refine vL_nil (Sq.go ?_) | skip)
  try refine WJ.cut ?_
  refine OpJ.callV hf (fun _ _ => rfl) rfl rfl rfl ?_
  (first | refine Sq.go ?_ | refine vL_nil (Sq.go ?_) | skip)
  try refine WJ.cut ?_
  (first | refine Sq.go ?_ | refine vL_nil (Sq.go ?_) | skip)
  try refine WJ.cut ?_
  refine OpJ.callV hi (fun _ _ => rfl) rfl rfl rfl ?_
  (first | refine Sq.go ?_ | refine vL_nil (Sq.go ?_) | skip)
  try refine WJ.cut ?_
  refine OpJ.callV hp (fun _ _ => rfl) rfl rfl rfl ?_
  (first | refine Sq.go ?_ | refine vL_nil (Sq.go ?_) | skip)
  try refine vc_sound _ _ _ _ ?_
  exact FinP.open rfl rfl
theorem removeNo_c {s : SS} {l : List OP} (h : isS s l) {o : OP} (hc : checkO o = 0) (hw : wrongO l o ≠ 0) (hk : o.k = 1) : Cv 95 [stv s, opv o] (.tup [stv s, iv (-1), iv (wrongO l o)]) := by
  have hg := GetS_c h o.i
  have hwe : wrongO l o = if (findO 0 o.i l).isSome = true then (if deadO l o.i = true then 4 else 0) else 6 := by
    unfold wrongO; rw [if_neg (fun e => e hc), if_pos hk]
  rw [hwe] at hw
  rw [hwe]
  cases hf : findO 0 o.i l with
  | none =>
    have he : entO l o.i = none := by unfold entO; rw [hf]; rfl
    rw [he] at hg
    refine Ct.of_vc Tryz.f95 Tryz.func95 rfl rfl fun w H B g0 => ?_
    refine OpJ.callV hg (fun _ _ => rfl) rfl rfl rfl ?_
    (repeat (first | refine Spl.t rfl ?_ | refine Spl.f rfl ?_))
    exact FinP.open rfl rfl
  | some x =>
    have he : entO l o.i = some ⟨x.a, x.ch, deadO l o.i⟩ := by unfold entO; rw [hf]; rfl
    rw [he] at hg
    rw [hf, if_pos (show (some x).isSome = true from rfl)] at hw
    have hd : deadO l o.i = true := by
      cases hd : deadO l o.i with
      | true => rfl
      | false => rw [hd] at hw; exact absurd rfl hw
    rw [if_pos (show (some x).isSome = true from rfl), if_pos hd]
    refine Ct.of_vc Tryz.f95 Tryz.func95 rfl rfl fun w H B g0 => ?_
    refine OpJ.callV hg (fun _ _ => rfl) rfl rfl rfl ?_
    (repeat (first | refine Spl.t rfl ?_ | refine Spl.f rfl ?_))
    refine Spl.t hd ?_
    (repeat (first | refine Spl.t rfl ?_ | refine Spl.f rfl ?_))
    exact FinP.open rfl rfl
/-- A state behind an operation. -/
def appS (s : SS) (l : List OP) (o : OP) : SS := if wrongO l o = 0 then (if o.k = 1 then delS s l o else insS s l o) else s
def appL (l : List OP) (o : OP) : List OP := if wrongO l o = 0 then l ++ [o] else l
def atO (l : List OP) (o : OP) : Int := if wrongO l o = 0 then placeL o.i (rowE (l ++ [o])) else -1
theorem appS_is {s : SS} {l : List OP} (h : isS s l) (o : OP) : isS (appS s l o) (appL l o) := by
  unfold appS appL
  split
  · next hw =>
    split
    · next hk => exact delS_is h hw hk
    · next hk =>
      have : o.k = 0 := by rcases (checkO_0 (wrong_0 hw).1).2 with h | h; exact absurd h.1 hk; exact h.1
      exact insS_is h hw this
  · exact h
theorem Apply_c {s : SS} {l : List OP} (h : isS s l) (o : OP) : Cv 57 [stv s, opv o] (.tup [stv (appS s l o), iv (atO l o), iv (wrongO l o)]) := by
  by_cases hc : checkO o = 0
  · have hkk := (checkO_0 hc).2
    have hck := Check5_c o
    rw [hc] at hck
    by_cases hk : o.k = 1
    · have key : Cv 95 [stv s, opv o] (.tup [stv (appS s l o), iv (atO l o), iv (wrongO l o)]) := by
        unfold appS atO
        by_cases hw : wrongO l o = 0
        · obtain ⟨n, ch, d1, d2, d3, d4, d5⟩ := row_del h.dn hw hk
          have := remove_c h hw hk
          rw [if_pos hw, if_pos hk, if_pos hw, hw, d5, ← d1]; exact this
        · rw [if_neg hw, if_neg hw]; exact removeNo_c h hc hw hk
      refine Ct.of_vc Tryz.f57 Tryz.func57 rfl rfl fun w H B g0 => ?_
      refine OpJ.callV hck (fun _ _ => rfl) rfl rfl rfl ?_
      (repeat (first | refine Spl.t rfl ?_ | refine Spl.f rfl ?_))
      refine Spl.t (by rw [hk]; rfl) ?_
      refine OpJ.callV key (fun _ _ => rfl) rfl rfl rfl ?_
      (repeat (first | refine Spl.t rfl ?_ | refine Spl.f rfl ?_))
      exact FinP.open rfl rfl
    · have hk0 : o.k = 0 := by rcases hkk with h | h; exact absurd h.1 hk; exact h.1
      have key : Cv 96 [stv s, opv o] (.tup [stv (appS s l o), iv (atO l o), iv (wrongO l o)]) := by
        unfold appS atO
        by_cases hw : wrongO l o = 0
        · have := insert_c h hw hk0
          rw [if_pos hw, if_neg hk, if_pos hw, hw, place_ins h.dn hw hk0]; exact this
        · rw [if_neg hw, if_neg hw]; exact insertNo_c h hc hw hk0
      refine Ct.of_vc Tryz.f57 Tryz.func57 rfl rfl fun w H B g0 => ?_
      refine OpJ.callV hck (fun _ _ => rfl) rfl rfl rfl ?_
      (repeat (first | refine Spl.t rfl ?_ | refine Spl.f rfl ?_))
      refine Spl.f (by rw [hk0]; rfl) ?_
      (repeat (first | refine Spl.t rfl ?_ | refine Spl.f rfl ?_))
      refine OpJ.callV key (fun _ _ => rfl) rfl rfl rfl ?_
      (repeat (first | refine Spl.t rfl ?_ | refine Spl.f rfl ?_))
      exact FinP.open rfl rfl
  · have hw : wrongO l o = checkO o := by unfold wrongO; rw [if_pos hc]
    have hw0 : ¬ wrongO l o = 0 := by rw [hw]; exact hc
    unfold appS atO
    rw [if_neg hw0, if_neg hw0, hw]
    refine Ct.of_vc Tryz.f57 Tryz.func57 rfl rfl fun w H B g0 => ?_
    refine OpJ.callV (Check5_c o) (fun _ _ => rfl) rfl rfl rfl ?_
    refine Spl.t (by simpa using hc) ?_
    (repeat (first | refine Spl.t rfl ?_ | refine Spl.f rfl ?_))
    exact FinP.open rfl rfl
theorem isS_nil : isS ⟨.nil, .nil, 0⟩ [] := ⟨.nil, rfl, trivial, [], isM_nil, fun _ => rfl, rfl⟩
end Go.Proofs.E
end
section
open Go Go.Gv
attribute [local irreducible] Go.Gv.WJ Go.Gv.OpJ Go.Gv.QJ Go.Gv.Spl Go.Gv.Req Go.Gv.IdxP Go.Gv.RegP Go.Gv.FinP Go.Gv.CellP Go.Gv.CellsP Go.Gv.ArrP Go.Gv.ArrsP Go.Gv.DropP Go.Gv.ByteP Go.Gv.StoreP
set_option maxRecDepth 100000
namespace Go.Proofs.E
attribute [local irreducible] elems
abbrev opD (o : OP) : List D := [.v (.int .i64 o.k), .v (.int .i64 o.i.c), .v (.int .i64 o.i.s), .v (.int .i64 o.a.c), .v (.int .i64 o.a.s), .v (.int .i32 o.ch)]
def aw6 : List OP := [⟨0, ⟨1, 1⟩, ⟨0, 0⟩, 97⟩, ⟨0, ⟨2, 1⟩, ⟨1, 1⟩, 98⟩, ⟨0, ⟨2, 2⟩, ⟨1, 1⟩, 99⟩]
theorem run3 : ∃ s, isS s aw6 ∧ ∃ s1 s2, isS s1 [⟨0, ⟨1, 1⟩, ⟨0, 0⟩, 97⟩] ∧ isS s2 [⟨0, ⟨1, 1⟩, ⟨0, 0⟩, 97⟩, ⟨0, ⟨2, 1⟩, ⟨1, 1⟩, 98⟩] ∧
    Cv 57 [stv ⟨.nil, .nil, 0⟩, opv ⟨0, ⟨1, 1⟩, ⟨0, 0⟩, 97⟩] (.tup [stv s1, iv 0, iv 0]) ∧
    Cv 57 [stv s1, opv ⟨0, ⟨2, 1⟩, ⟨1, 1⟩, 98⟩] (.tup [stv s2, iv 1, iv 0]) ∧
    Cv 57 [stv s2, opv ⟨0, ⟨2, 2⟩, ⟨1, 1⟩, 99⟩] (.tup [stv s, iv 1, iv 0]) := by
  have h1 := appS_is isS_nil ⟨0, ⟨1, 1⟩, ⟨0, 0⟩, 97⟩
  have a1 := Apply_c isS_nil ⟨0, ⟨1, 1⟩, ⟨0, 0⟩, 97⟩
  rw [show appL [] ⟨0, ⟨1, 1⟩, ⟨0, 0⟩, 97⟩ = [⟨0, ⟨1, 1⟩, ⟨0, 0⟩, 97⟩] by decide +kernel] at h1
  rw [show atO [] ⟨0, ⟨1, 1⟩, ⟨0, 0⟩, 97⟩ = 0 by decide +kernel, show wrongO [] ⟨0, ⟨1, 1⟩, ⟨0, 0⟩, 97⟩ = 0 by decide +kernel] at a1
  have h2 := appS_is h1 ⟨0, ⟨2, 1⟩, ⟨1, 1⟩, 98⟩
  have a2 := Apply_c h1 ⟨0, ⟨2, 1⟩, ⟨1, 1⟩, 98⟩
  rw [show appL [⟨0, ⟨1, 1⟩, ⟨0, 0⟩, 97⟩] ⟨0, ⟨2, 1⟩, ⟨1, 1⟩, 98⟩ = [⟨0, ⟨1, 1⟩, ⟨0, 0⟩, 97⟩, ⟨0, ⟨2, 1⟩, ⟨1, 1⟩, 98⟩] by decide +kernel] at h2
  rw [show atO [⟨0, ⟨1, 1⟩, ⟨0, 0⟩, 97⟩] ⟨0, ⟨2, 1⟩, ⟨1, 1⟩, 98⟩ = 1 by decide +kernel, show wrongO [⟨0, ⟨1, 1⟩, ⟨0, 0⟩, 97⟩] ⟨0, ⟨2, 1⟩, ⟨1, 1⟩, 98⟩ = 0 by decide +kernel] at a2
  have h3 := appS_is h2 ⟨0, ⟨2, 2⟩, ⟨1, 1⟩, 99⟩
  have a3 := Apply_c h2 ⟨0, ⟨2, 2⟩, ⟨1, 1⟩, 99⟩
  rw [show appL [⟨0, ⟨1, 1⟩, ⟨0, 0⟩, 97⟩, ⟨0, ⟨2, 1⟩, ⟨1, 1⟩, 98⟩] ⟨0, ⟨2, 2⟩, ⟨1, 1⟩, 99⟩ = aw6 by decide +kernel] at h3
  rw [show atO [⟨0, ⟨1, 1⟩, ⟨0, 0⟩, 97⟩, ⟨0, ⟨2, 1⟩, ⟨1, 1⟩, 98⟩] ⟨0, ⟨2, 2⟩, ⟨1, 1⟩, 99⟩ = 1 by decide +kernel, show wrongO [⟨0, ⟨1, 1⟩, ⟨0, 0⟩, 97⟩, ⟨0, ⟨2, 1⟩, ⟨1, 1⟩, 98⟩] ⟨0, ⟨2, 2⟩, ⟨1, 1⟩, 99⟩ = 0 by decide +kernel] at a3
  exact ⟨_, h3, _, _, h1, h2, a1, a2, a3⟩
theorem TextS_c {s : SS} {l : List OP} (h : isS s l) : Cv 64 [tv s.t] (sv (byt (txtZ (rowE l)))) := by
  have := Text_c s.t (by have := h.small; omega) (by rw [h.els]; exact okE_of h.dn)
  rw [h.els] at this; exact this
theorem Awake6_c : Cv 92 [] (bv true) := by
  obtain ⟨s3, h3, s1, s2, h1, h2, a1, a2, a3⟩ := run3
  have tx := TextS_c h3
  have he : byt (txtZ (rowE aw6)) = [97, 99, 98] := by decide +kernel
  rw [he] at tx
  refine Ct.of_wv Tryz.f92 Tryz.func92 rfl rfl fun w H B g0 => ?_
  try refine WJ.cut ?_
  (first | refine Sq.go ?_ | refine vL_nil (Sq.go ?_) | skip)
  try refine WJ.cut ?_
  (first | refine Sq.go ?_ | refine vL_nil (Sq.go ?_) | skip)
  try refine WJ.cut ?_
  refine WJ.loopK (V := Nat) (fun v => [(14, iv v)]) (fun v => [(1, .cells (match v with | 0 => [.d TR.nil.d, .d PT.nil.d, iv 0] | 1 => [.d s1.t.d, .d s1.p.d, iv s1.n] | 2 => [.d s2.t.d, .d s2.p.d, iv s2.n] | _ => [.d s3.t.d, .d s3.p.d, iv s3.n]))]) [1] (fun v => 3 - v) (fun v => v ≤ 3) 0 (by decide) (by repeat' (first | exact trivial | exact rfl | refine And.intro ?_ ?_)) (by repeat' (first | exact trivial | exact rfl | refine And.intro ?_ ?_)) ?_
  intro v hv
  obtain rfl | rfl | rfl | rfl : v = 0 ∨ v = 1 ∨ v = 2 ∨ v = 3 := by omega
  · (repeat (first | refine Spl.t rfl ?_ | refine Spl.f rfl ?_))
    refine IdxP.of _ (by decide) rfl ?_
    refine OpJ.callV a1 (fun _ _ => rfl) rfl rfl rfl ?_
    (repeat (first | refine Spl.t rfl ?_ | refine Spl.f rfl ?_))
    exact ⟨1, by decide, by decide, (by repeat' (first | exact trivial | exact rfl | refine And.intro ?_ ?_)), (by repeat' (first | exact trivial | exact rfl | refine And.intro ?_ ?_)), (by repeat' (first | exact trivial | exact rfl | refine And.intro ?_ ?_)), (by repeat' (first | exact trivial | exact rfl | refine And.intro ?_ ?_))⟩
  · (repeat (first | refine Spl.t rfl ?_ | refine Spl.f rfl ?_))
    refine IdxP.of _ (by decide) rfl ?_
    refine OpJ.callV a2 (fun _ _ => rfl) rfl rfl rfl ?_
    (repeat (first | refine Spl.t rfl ?_ | refine Spl.f rfl ?_))
    exact ⟨2, by decide, by decide, (by repeat' (first | exact trivial | exact rfl | refine And.intro ?_ ?_)), (by repeat' (first | exact trivial | exact rfl | refine And.intro ?_ ?_)), (by repeat' (first | exact trivial | exact rfl | refine And.intro ?_ ?_)), (by repeat' (first | exact trivial | exact rfl | refine And.intro ?_ ?_))⟩
  · (repeat (first | refine Spl.t rfl ?_ | refine Spl.f rfl ?_))
    refine IdxP.of _ (by decide) rfl ?_
    refine OpJ.callV a3 (fun _ _ => rfl) rfl rfl rfl ?_
    (repeat (first | refine Spl.t rfl ?_ | refine Spl.f rfl ?_))
    exact ⟨3, by decide, by decide, (by repeat' (first | exact trivial | exact rfl | refine And.intro ?_ ?_)), (by repeat' (first | exact trivial | exact rfl | refine And.intro ?_ ?_)), (by repeat' (first | exact trivial | exact rfl | refine And.intro ?_ ?_)), (by repeat' (first | exact trivial | exact rfl | refine And.intro ?_ ?_))⟩
  · (repeat (first | refine Spl.t rfl ?_ | refine Spl.f rfl ?_))
    (first | refine Sq.go ?_ | refine vL_nil (Sq.go ?_) | skip)
    try refine WJ.cut ?_
    refine OpJ.callV Awake3_c (fun _ _ => rfl) rfl rfl rfl ?_
    (repeat (first | refine Spl.t rfl ?_ | refine Spl.f rfl ?_))
    refine OpJ.callV Awake4_c (fun _ _ => rfl) rfl rfl rfl ?_
    (repeat (first | refine Spl.t rfl ?_ | refine Spl.f rfl ?_))
    refine OpJ.callV Awake5_c (fun _ _ => rfl) rfl rfl rfl ?_
    (repeat (first | refine Spl.t rfl ?_ | refine Spl.f rfl ?_))
    refine OpJ.callV tx (fun _ _ => rfl) rfl rfl rfl ?_
    (repeat (first | refine Spl.t rfl ?_ | refine Spl.f rfl ?_))
    (first | refine Sq.go ?_ | refine vL_nil (Sq.go ?_) | skip)
    try refine vc_sound _ _ _ _ ?_
    exact FinP.open rfl rfl
end Go.Proofs.E
end
section
open Go Go.Gv
attribute [local irreducible] Go.Gv.WJ Go.Gv.OpJ Go.Gv.QJ Go.Gv.Spl Go.Gv.Req Go.Gv.IdxP Go.Gv.RegP Go.Gv.FinP Go.Gv.CellP Go.Gv.CellsP Go.Gv.ArrP Go.Gv.ArrsP Go.Gv.DropP Go.Gv.ByteP Go.Gv.StoreP
set_option maxRecDepth 100000
namespace Go.Proofs.E
theorem w32 (x : Int) (h : -2147483648 ≤ x) (h' : x ≤ 2147483647) : IntKind.i32.wrap x = x := by
  simp only [IntKind.wrap, IntKind.signed, IntKind.bits]; simp; omega
theorem bq (b u m : Int) (hb : 0 ≤ b) (hu : 0 ≤ u) (hu2 : u ≤ 1114111) (hm : 0 < m) (h : b + u / m < 256) : IntKind.u8.wrap (IntKind.i32.wrap (b + IntKind.i32.wrap (u.tdiv m))) = b + u / m := by
  have h1 : 0 ≤ u / m := Int.ediv_nonneg hu (by omega)
  rw [Int.tdiv_eq_ediv_of_nonneg hu, w32 (u / m) (by omega) (by omega), w32 _ (by omega) (by omega), wrap_u8', Int.emod_eq_of_lt (by omega) h]
theorem bm (u : Int) (hu : 0 ≤ u) (hu2 : u ≤ 1114111) : IntKind.u8.wrap (IntKind.i32.wrap (128 + u.tmod 64)) = 128 + u % 64 := by
  rw [Int.tmod_eq_emod_of_nonneg hu, w32 _ (by omega) (by omega), wrap_u8', Int.emod_eq_of_lt (by omega) (by omega)]
theorem bqm (u m : Int) (hu : 0 ≤ u) (hu2 : u ≤ 1114111) (hm : 0 < m) : IntKind.u8.wrap (IntKind.i32.wrap (128 + (IntKind.i32.wrap (u.tdiv m)).tmod 64)) = 128 + u / m % 64 := by
  have h1 : 0 ≤ u / m := Int.ediv_nonneg hu (by omega)
  have h2 : u / m ≤ u := Int.ediv_le_self _ hu
  rw [Int.tdiv_eq_ediv_of_nonneg hu, w32 (u / m) (by omega) (by omega), bm _ h1 (by omega)]
theorem Char_c (v : Int) (h0 : -2147483648 ≤ v) (h1 : v ≤ 2147483647) : Cv 155 [cv' v] (sv (byt (Lib.encodeRuneZ v))) := by
  by_cases hok : 0 ≤ v ∧ v ≤ 1114111 ∧ ¬ (55296 ≤ v ∧ v ≤ 57343)
  · obtain ⟨hU0, hU1, hUs⟩ := hok
    have hUe : Lib.encodeRuneZ v = Lib.encodeRuneZ v := rfl
    refine Ct.of_vc Tryz.f155 Tryz.func155 rfl rfl fun w H B g0 => ?_
    refine Spl.f (decide_eq_false (by omega)) ?_
    (repeat (first | refine Spl.t rfl ?_ | refine Spl.f rfl ?_))
    refine Spl.f (decide_eq_false (by omega)) ?_
    (repeat (first | refine Spl.t rfl ?_ | refine Spl.f rfl ?_))
    refine Spl.of (fun g => ?_) (fun g => ?_)
    · have g := of_decide_eq_true g
      (repeat (first | refine Spl.t rfl ?_ | refine Spl.f rfl ?_))
      refine Spl.f (decide_eq_false (by omega)) ?_
      (repeat (first | refine Spl.t rfl ?_ | refine Spl.f rfl ?_))
      (have q1 := bq 192 v 64; have q2 := bq 224 v 4096; have q3 := bq 240 v 262144; have m0 := bm v hU0 hU1; have m1 := bqm v 64 hU0 hU1 (by decide); have m2 := bqm v 4096 hU0 hU1 (by decide); refine Spl.of (fun g1 => ?_) (fun g1 => ?_); (have g1 := of_decide_eq_true g1; (repeat (first | refine Spl.t rfl ?_ | refine Spl.f rfl ?_)); refine OpJ.qu (O.bytesStr (ns := [IntKind.u8.wrap v]) rfl rfl rfl rfl rfl rfl) rfl ?_; refine FinP.open rfl ?_; show AV.d (.v (.string (strOf [IntKind.u8.wrap v]))) = _; rw [hUe, Lib.encodeRuneZ_one hU0 (by omega), wrap_u8', Int.emod_eq_of_lt hU0 (by omega)]; rfl); (have g1 := of_decide_eq_false g1; (repeat (first | refine Spl.t rfl ?_ | refine Spl.f rfl ?_)); refine Spl.of (fun g2 => ?_) (fun g2 => ?_); (have g2 := of_decide_eq_true g2; (repeat (first | refine Spl.t rfl ?_ | refine Spl.f rfl ?_)); refine Req.of (by decide) ?_; refine Req.of (by decide) ?_; refine OpJ.qu (O.bytesStr (ns := [IntKind.u8.wrap (IntKind.i32.wrap (192 + IntKind.i32.wrap (v.tdiv 64))), IntKind.u8.wrap (IntKind.i32.wrap (128 + v.tmod 64))]) rfl rfl rfl rfl rfl rfl) rfl ?_; refine FinP.open rfl ?_; show AV.d (.v (.string (strOf [_, _]))) = _; rw [hUe, Lib.encodeRuneZ_two (by omega) (by omega), q1 (by omega) hU0 hU1 (by decide) (by omega), m0]; rfl); (have g2 := of_decide_eq_false g2; (repeat (first | refine Spl.t rfl ?_ | refine Spl.f rfl ?_)); refine Spl.of (fun g3 => ?_) (fun g3 => ?_); (have g3 := of_decide_eq_true g3; (repeat (first | refine Spl.t rfl ?_ | refine Spl.f rfl ?_)); refine Req.of (by decide) ?_; refine Req.of (by decide) ?_; refine Req.of (by decide) ?_; refine Req.of (by decide) ?_; refine OpJ.qu (O.bytesStr (ns := [IntKind.u8.wrap (IntKind.i32.wrap (224 + IntKind.i32.wrap (v.tdiv 4096))), IntKind.u8.wrap (IntKind.i32.wrap (128 + (IntKind.i32.wrap (v.tdiv 64)).tmod 64)), IntKind.u8.wrap (IntKind.i32.wrap (128 + v.tmod 64))]) rfl rfl rfl rfl rfl rfl) rfl ?_; refine FinP.open rfl ?_; show AV.d (.v (.string (strOf [_, _, _]))) = _; rw [hUe, Lib.encodeRuneZ_three (by omega), q2 (by omega) hU0 hU1 (by decide) (by omega), m0, m1]; rfl); (have g3 := of_decide_eq_false g3; (repeat (first | refine Spl.t rfl ?_ | refine Spl.f rfl ?_)); refine Req.of (by decide) ?_; refine Req.of (by decide) ?_; refine Req.of (by decide) ?_; refine Req.of (by decide) ?_; refine Req.of (by decide) ?_; refine Req.of (by decide) ?_; refine OpJ.qu (O.bytesStr (ns := [IntKind.u8.wrap (IntKind.i32.wrap (240 + IntKind.i32.wrap (v.tdiv 262144))), IntKind.u8.wrap (IntKind.i32.wrap (128 + (IntKind.i32.wrap (v.tdiv 4096)).tmod 64)), IntKind.u8.wrap (IntKind.i32.wrap (128 + (IntKind.i32.wrap (v.tdiv 64)).tmod 64)), IntKind.u8.wrap (IntKind.i32.wrap (128 + v.tmod 64))]) rfl rfl rfl rfl rfl rfl) rfl ?_; refine FinP.open rfl ?_; show AV.d (.v (.string (strOf [_, _, _, _]))) = _; rw [hUe, Lib.encodeRuneZ_four (by omega) (by omega), q3 (by omega) hU0 hU1 (by decide) (by omega), m0, m1, m2]; rfl))))
    · (repeat (first | refine Spl.t rfl ?_ | refine Spl.f rfl ?_))
      (have q1 := bq 192 v 64; have q2 := bq 224 v 4096; have q3 := bq 240 v 262144; have m0 := bm v hU0 hU1; have m1 := bqm v 64 hU0 hU1 (by decide); have m2 := bqm v 4096 hU0 hU1 (by decide); refine Spl.of (fun g1 => ?_) (fun g1 => ?_); (have g1 := of_decide_eq_true g1; (repeat (first | refine Spl.t rfl ?_ | refine Spl.f rfl ?_)); refine OpJ.qu (O.bytesStr (ns := [IntKind.u8.wrap v]) rfl rfl rfl rfl rfl rfl) rfl ?_; refine FinP.open rfl ?_; show AV.d (.v (.string (strOf [IntKind.u8.wrap v]))) = _; rw [hUe, Lib.encodeRuneZ_one hU0 (by omega), wrap_u8', Int.emod_eq_of_lt hU0 (by omega)]; rfl); (have g1 := of_decide_eq_false g1; (repeat (first | refine Spl.t rfl ?_ | refine Spl.f rfl ?_)); refine Spl.of (fun g2 => ?_) (fun g2 => ?_); (have g2 := of_decide_eq_true g2; (repeat (first | refine Spl.t rfl ?_ | refine Spl.f rfl ?_)); refine Req.of (by decide) ?_; refine Req.of (by decide) ?_; refine OpJ.qu (O.bytesStr (ns := [IntKind.u8.wrap (IntKind.i32.wrap (192 + IntKind.i32.wrap (v.tdiv 64))), IntKind.u8.wrap (IntKind.i32.wrap (128 + v.tmod 64))]) rfl rfl rfl rfl rfl rfl) rfl ?_; refine FinP.open rfl ?_; show AV.d (.v (.string (strOf [_, _]))) = _; rw [hUe, Lib.encodeRuneZ_two (by omega) (by omega), q1 (by omega) hU0 hU1 (by decide) (by omega), m0]; rfl); (have g2 := of_decide_eq_false g2; (repeat (first | refine Spl.t rfl ?_ | refine Spl.f rfl ?_)); refine Spl.of (fun g3 => ?_) (fun g3 => ?_); (have g3 := of_decide_eq_true g3; (repeat (first | refine Spl.t rfl ?_ | refine Spl.f rfl ?_)); refine Req.of (by decide) ?_; refine Req.of (by decide) ?_; refine Req.of (by decide) ?_; refine Req.of (by decide) ?_; refine OpJ.qu (O.bytesStr (ns := [IntKind.u8.wrap (IntKind.i32.wrap (224 + IntKind.i32.wrap (v.tdiv 4096))), IntKind.u8.wrap (IntKind.i32.wrap (128 + (IntKind.i32.wrap (v.tdiv 64)).tmod 64)), IntKind.u8.wrap (IntKind.i32.wrap (128 + v.tmod 64))]) rfl rfl rfl rfl rfl rfl) rfl ?_; refine FinP.open rfl ?_; show AV.d (.v (.string (strOf [_, _, _]))) = _; rw [hUe, Lib.encodeRuneZ_three (by omega), q2 (by omega) hU0 hU1 (by decide) (by omega), m0, m1]; rfl); (have g3 := of_decide_eq_false g3; (repeat (first | refine Spl.t rfl ?_ | refine Spl.f rfl ?_)); refine Req.of (by decide) ?_; refine Req.of (by decide) ?_; refine Req.of (by decide) ?_; refine Req.of (by decide) ?_; refine Req.of (by decide) ?_; refine Req.of (by decide) ?_; refine OpJ.qu (O.bytesStr (ns := [IntKind.u8.wrap (IntKind.i32.wrap (240 + IntKind.i32.wrap (v.tdiv 262144))), IntKind.u8.wrap (IntKind.i32.wrap (128 + (IntKind.i32.wrap (v.tdiv 4096)).tmod 64)), IntKind.u8.wrap (IntKind.i32.wrap (128 + (IntKind.i32.wrap (v.tdiv 64)).tmod 64)), IntKind.u8.wrap (IntKind.i32.wrap (128 + v.tmod 64))]) rfl rfl rfl rfl rfl rfl) rfl ?_; refine FinP.open rfl ?_; show AV.d (.v (.string (strOf [_, _, _, _]))) = _; rw [hUe, Lib.encodeRuneZ_four (by omega) (by omega), q3 (by omega) hU0 hU1 (by decide) (by omega), m0, m1, m2]; rfl))))
  · refine Ct.of_vc Tryz.f155 Tryz.func155 rfl rfl fun w H B g0 => ?_
    refine Spl.of (fun g => ?_) (fun g => ?_)
    · (repeat (first | refine Spl.t rfl ?_ | refine Spl.f rfl ?_))
      ((repeat (first | refine Spl.t rfl ?_ | refine Spl.f rfl ?_)); refine Req.of (by decide) ?_; refine Req.of (by decide) ?_; refine Req.of (by decide) ?_; refine Req.of (by decide) ?_; refine OpJ.qu (O.bytesStr (ns := [239, 191, 189]) rfl rfl rfl rfl rfl rfl) rfl ?_; refine FinP.open rfl ?_; show AV.d (.v (.string (strOf [239, 191, 189]))) = _; rw [Lib.encodeRuneZ_bad (by omega)]; rfl)
    · have g := of_decide_eq_false g
      (repeat (first | refine Spl.t rfl ?_ | refine Spl.f rfl ?_))
      refine Spl.of (fun g4 => ?_) (fun g4 => ?_)
      · (repeat (first | refine Spl.t rfl ?_ | refine Spl.f rfl ?_))
        ((repeat (first | refine Spl.t rfl ?_ | refine Spl.f rfl ?_)); refine Req.of (by decide) ?_; refine Req.of (by decide) ?_; refine Req.of (by decide) ?_; refine Req.of (by decide) ?_; refine OpJ.qu (O.bytesStr (ns := [239, 191, 189]) rfl rfl rfl rfl rfl rfl) rfl ?_; refine FinP.open rfl ?_; show AV.d (.v (.string (strOf [239, 191, 189]))) = _; rw [Lib.encodeRuneZ_bad (by omega)]; rfl)
      · have g4 := of_decide_eq_false g4
        (repeat (first | refine Spl.t rfl ?_ | refine Spl.f rfl ?_))
        refine Spl.t (decide_eq_true (by omega)) ?_
        (repeat (first | refine Spl.t rfl ?_ | refine Spl.f rfl ?_))
        refine Spl.t (decide_eq_true (by omega)) ?_
        (repeat (first | refine Spl.t rfl ?_ | refine Spl.f rfl ?_))
        ((repeat (first | refine Spl.t rfl ?_ | refine Spl.f rfl ?_)); refine Req.of (by decide) ?_; refine Req.of (by decide) ?_; refine Req.of (by decide) ?_; refine Req.of (by decide) ?_; refine OpJ.qu (O.bytesStr (ns := [239, 191, 189]) rfl rfl rfl rfl rfl rfl) rfl ?_; refine FinP.open rfl ?_; show AV.d (.v (.string (strOf [239, 191, 189]))) = _; rw [Lib.encodeRuneZ_bad (by omega)]; rfl)
theorem rank_snoc {L : List EL} {i : Nat} {e : EL} (h : L[i]? = some e) : rankL L ((i + 1 : Nat) : Int) = rankL L (i : Int) + TR.one e := by
  unfold rankL
  rw [Int.toNat_natCast, Int.toNat_natCast, take_snoc h, List.filter_append, List.length_append, List.filter_cons, one_le]
  cases e.dead <;> simp
theorem rank_le (L : List EL) (i : Int) : rankL L i ≤ L.length := by
  unfold rankL
  exact Nat.le_trans (List.length_filter_le _ _) (by rw [List.length_take]; omega)
theorem RRank_c (L : List EL) (i : Int) (hL : L.length ≤ 1000000) : Cv 24 [.d (.sl 4 (L.map elD)), iv i] (iv (rankL L i)) := by
  have fin : ∀ k : Nat, k ≤ L.length → ¬ ((k : Int) < L.length ∧ (k : Int) < i) → (k = 0 ∨ (k : Int) ≤ i) → (rankL L (k : Int) : Int) = (rankL L i : Int) := fun k hk hn hi => by
    have : rankL L (k : Int) = rankL L i := by
      unfold rankL
      rw [Int.toNat_natCast]
      by_cases h : k = L.length
      · rw [h, List.take_length, List.take_of_length_le (by omega)]
      · have : i.toNat = k := by omega
        rw [this]
    rw [this]
  refine Ct.of_vc Tryz.f24 Tryz.func24 rfl rfl fun w H B g0 => ?_
  refine WJ.loopK (V := Nat) (fun k => [(6, iv k), (5, iv (rankL L (k : Int)))]) (fun _ => []) [] (fun k => L.length - k) (fun k => k ≤ L.length ∧ (k = 0 ∨ (k : Int) ≤ i)) 0 ⟨by omega, .inl rfl⟩ ⟨rfl, some_iv (by simp [rankL]), trivial⟩ (by repeat' (first | exact trivial | exact rfl | refine And.intro ?_ ?_)) ?_
  rintro k ⟨hk, hki⟩
  have hr := rank_le L (k : Int)
  refine Spl.of (fun h1 => ?_) (fun h1 => ?_)
  · have hlt : k < L.length := by have := of_decide_eq_true h1; simp at this; omega
    have hx : L[k]? = some L[k] := by simp
    (repeat (first | refine Spl.t rfl ?_ | refine Spl.f rfl ?_))
    refine Spl.of (fun h2 => ?_) (fun h2 => ?_)
    · have h2 := of_decide_eq_true h2
      have hsn := rank_snoc hx
      rw [one_le] at hsn
      (repeat (first | refine Spl.t rfl ?_ | refine Spl.f rfl ?_))
      refine IdxP.of (elD L[k]) (by omega) (by simp [hx]) ?_
      refine Spl.of (fun h3 => ?_) (fun h3 => ?_)
      · have h3 : L[k].dead = false := by simpa using h3
        rw [if_neg (by rw [h3]; decide)] at hsn
        (repeat (first | refine Spl.t rfl ?_ | refine Spl.f rfl ?_))
        exact ⟨k + 1, ⟨by omega, .inr (by omega)⟩, by omega, ⟨some_iv (wrap_id _ (by omega) (by omega)), some_iv (by rw [wrap_id _ (by omega) (by omega), hsn]; omega), trivial⟩, (by repeat' (first | exact trivial | exact rfl | refine And.intro ?_ ?_)), (by repeat' (first | exact trivial | exact rfl | refine And.intro ?_ ?_)), (by repeat' (first | exact trivial | exact rfl | refine And.intro ?_ ?_))⟩
      · have h3 : L[k].dead = true := by simpa using h3
        rw [if_pos h3] at hsn
        (repeat (first | refine Spl.t rfl ?_ | refine Spl.f rfl ?_))
        exact ⟨k + 1, ⟨by omega, .inr (by omega)⟩, by omega, ⟨some_iv (wrap_id _ (by omega) (by omega)), some_iv (by rw [hsn]; rfl), trivial⟩, (by repeat' (first | exact trivial | exact rfl | refine And.intro ?_ ?_)), (by repeat' (first | exact trivial | exact rfl | refine And.intro ?_ ?_)), (by repeat' (first | exact trivial | exact rfl | refine And.intro ?_ ?_))⟩
    · have h2 := of_decide_eq_false h2
      (repeat (first | refine Spl.t rfl ?_ | refine Spl.f rfl ?_))
      exact FinP.open rfl (congrArg iv (fin k hk (by omega) hki))
  · have h1 := of_decide_eq_false h1
    simp at h1
    (repeat (first | refine Spl.t rfl ?_ | refine Spl.f rfl ?_))
    exact FinP.open rfl (congrArg iv (fin k hk (by omega) hki))
theorem RText3_c (L : List EL) (hL : L.length ≤ 1000000) (hok : ∀ e, e ∈ L → okE e) : Cv 127 [.d (.sl 4 (L.map elD))] (sv (byt (txtZ L))) := by
  have hb : ∀ a b : List Int, byt (a ++ b) = byt a ++ byt b := fun a b => by unfold byt; rw [List.map_append]
  refine Ct.of_vc Tryz.f127 Tryz.func127 rfl rfl fun w H B g0 => ?_
  refine WJ.loopK (V := Nat) (fun k => [(4, iv k), (3, sv (byt (txtZ (L.take k))))]) (fun _ => []) [] (fun k => L.length - k) (fun k => k ≤ L.length) 0 (by omega) ⟨rfl, rfl, trivial⟩ (by repeat' (first | exact trivial | exact rfl | refine And.intro ?_ ?_)) ?_
  intro k hk
  refine Spl.of (fun h1 => ?_) (fun h1 => ?_)
  · have hlt : k < L.length := by have := of_decide_eq_true h1; simp at this; omega
    have hx : L[k]? = some L[k] := by simp
    have hlen : (byt (txtZ (L.take k))).length ≤ 4 * L.length := by
      unfold byt
      rw [List.length_map]
      have := txtZ_len (L.take k)
      rw [List.length_take] at this
      omega
    have henc := Lib.encodeRuneZ_length L[k].ch
    have hsn : txtZ (L.take (k + 1)) = txtZ (L.take k) ++ (if L[k].dead = true then [] else Lib.encodeRuneZ L[k].ch) := by
      rw [take_snoc hx, txtZ_app]
      congr 1
      rw [txtZ]
      split <;> simp [txtZ]
    (repeat (first | refine Spl.t rfl ?_ | refine Spl.f rfl ?_))
    refine IdxP.of (elD L[k]) (by omega) (by simp [hx]) ?_
    refine Spl.of (fun h3 => ?_) (fun h3 => ?_)
    · have h3 : L[k].dead = false := by simpa using h3
      rw [if_neg (by rw [h3]; decide)] at hsn
      obtain ⟨o1, o2⟩ := hok L[k] (List.getElem_mem hlt)
      (repeat (first | refine Spl.t rfl ?_ | refine Spl.f rfl ?_))
      refine IdxP.of (elD L[k]) (by omega) (by simp [hx]) ?_
      refine OpJ.callV (Char_c L[k].ch o1 o2) (fun _ _ => rfl) rfl rfl rfl ?_
      refine Req.of (by show (byt (txtZ (L.take k))).length + (byt (Lib.encodeRuneZ L[k].ch)).length ≤ _; have : (byt (Lib.encodeRuneZ L[k].ch)).length ≤ 4 := (by unfold byt; rw [List.length_map]; omega); omega) ?_
      exact ⟨k + 1, by omega, by omega, ⟨some_iv (wrap_id _ (by omega) (by omega)), some_sv (by rw [hsn, hb]), trivial⟩, (by repeat' (first | exact trivial | exact rfl | refine And.intro ?_ ?_)), (by repeat' (first | exact trivial | exact rfl | refine And.intro ?_ ?_)), (by repeat' (first | exact trivial | exact rfl | refine And.intro ?_ ?_))⟩
    · have h3 : L[k].dead = true := by simpa using h3
      rw [if_pos h3, List.append_nil] at hsn
      (repeat (first | refine Spl.t rfl ?_ | refine Spl.f rfl ?_))
      exact ⟨k + 1, by omega, by omega, ⟨some_iv (wrap_id _ (by omega) (by omega)), some_sv (by rw [hsn]), trivial⟩, (by repeat' (first | exact trivial | exact rfl | refine And.intro ?_ ?_)), (by repeat' (first | exact trivial | exact rfl | refine And.intro ?_ ?_)), (by repeat' (first | exact trivial | exact rfl | refine And.intro ?_ ?_))⟩
  · have h1 := of_decide_eq_false h1
    simp at h1
    (repeat (first | refine Spl.t rfl ?_ | refine Spl.f rfl ?_))
    exact FinP.open rfl (by rw [List.take_of_length_le (by omega)]; rfl)
end Go.Proofs.E
end
section
open Go Go.Gv
attribute [local irreducible] Go.Gv.WJ Go.Gv.OpJ Go.Gv.QJ Go.Gv.Spl Go.Gv.Req Go.Gv.IdxP Go.Gv.RegP Go.Gv.FinP Go.Gv.CellP Go.Gv.CellsP Go.Gv.ArrP Go.Gv.ArrsP Go.Gv.DropP Go.Gv.ByteP Go.Gv.StoreP
set_option maxRecDepth 100000
namespace Go.Proofs.E
theorem rank_all (L : List EL) : rankL L (L.length : Int) = liveL L := by unfold rankL liveL; rw [Int.toNat_natCast, List.take_length]
end Go.Proofs.E
end
section
open Go Go.Gv
attribute [local irreducible] Go.Gv.WJ Go.Gv.OpJ Go.Gv.QJ Go.Gv.Spl Go.Gv.Req Go.Gv.IdxP Go.Gv.RegP Go.Gv.FinP Go.Gv.CellP Go.Gv.CellsP Go.Gv.ArrP Go.Gv.ArrsP Go.Gv.DropP Go.Gv.ByteP Go.Gv.StoreP
set_option maxRecDepth 100000
namespace Go.Proofs.E
/-- The place of the first operation of a kind and an id. -/
def hasIx (k : Int) (a : ID) : List OP → Int
  | [] => -1
  | o :: r => if o.k = k ∧ o.i = a then 0 else (if hasIx k a r < 0 then -1 else hasIx k a r + 1)
theorem hasIx_at {k : Int} {a : ID} : ∀ {l : List OP} {n : Nat} {o : OP}, l[n]? = some o → o.k = k ∧ o.i = a → (∀ j x, j < n → l[j]? = some x → ¬ (x.k = k ∧ x.i = a)) → hasIx k a l = n ∧ findO k a l = some o
  | [], n, o, h, _, _ => by simp at h
  | x :: r, 0, o, h, ho, _ => by
    simp at h; subst h
    rw [hasIx, if_pos ho, findO, if_pos ho]; exact ⟨rfl, rfl⟩
  | x :: r, n + 1, o, h, ho, hn => by
    have h0 := hn 0 x (by omega) rfl
    obtain ⟨h1, h2⟩ := hasIx_at (l := r) (n := n) (by simpa using h) ho fun j y hj hy => hn (j + 1) y (by omega) (by simpa using hy)
    rw [hasIx, if_neg h0, findO, if_neg h0, h1, if_neg (by omega), h2]
    exact ⟨by simp, rfl⟩
theorem hasIx_none {k : Int} {a : ID} : ∀ {l : List OP}, (∀ (j : Nat) (x : OP), l[j]? = some x → ¬ (x.k = k ∧ x.i = a)) → hasIx k a l = -1 ∧ findO k a l = none
  | [], _ => ⟨rfl, rfl⟩
  | x :: r, hn => by
    have h0 := hn 0 x rfl
    obtain ⟨h1, h2⟩ := hasIx_none (l := r) fun j y hy => hn (j + 1) y (by simpa using hy)
    rw [hasIx, if_neg h0, findO, if_neg h0, h1, h2]; exact ⟨rfl, rfl⟩
theorem hasIx_is (k : Int) (a : ID) (l : List OP) : (hasIx k a l = -1 ∧ findO k a l = none) ∨ ∃ (n : Nat) (o : OP), hasIx k a l = n ∧ l[n]? = some o ∧ findO k a l = some o := by
  by_cases h : ∃ (n : Nat) (o : OP), l[n]? = some o ∧ (o.k = k ∧ o.i = a)
  · right
    obtain ⟨n, o, h1, h2⟩ := h
    induction l generalizing n with
    | nil => simp at h1
    | cons x r ih =>
      by_cases hx : x.k = k ∧ x.i = a
      · exact ⟨0, x, by rw [hasIx, if_pos hx]; rfl, rfl, by rw [findO, if_pos hx]⟩
      · cases n with
        | zero => simp at h1; subst h1; exact absurd h2 hx
        | succ n =>
          obtain ⟨m, y, h3, h4, h5⟩ := ih n (by simpa using h1)
          exact ⟨m + 1, y, by rw [hasIx, if_neg hx, h3, if_neg (by omega)]; simp, by simpa using h4, by rw [findO, if_neg hx, h5]⟩
  · left
    exact hasIx_none fun j x hj hx => h ⟨j, x, hj, hx⟩
theorem RHas_c (l : List OP) (k : Int) (a : ID) (hl : l.length ≤ 1000000) : Cv 152 [.d (.sl 6 (l.map opD)), iv k, idv a] (iv (hasIx k a l)) := by
  refine Ct.of_vc Tryz.f152 Tryz.func152 rfl rfl fun w H B g0 => ?_
  refine WJ.loopK (V := Nat) (fun i => [(7, iv i)]) (fun _ => []) [] (fun i => l.length - i) (fun i => i ≤ l.length ∧ ∀ (j : Nat) (y : OP), j < i → l[j]? = some y → ¬ (y.k = k ∧ y.i = a)) 0 ⟨by omega, fun j y h => by omega⟩ (by repeat' (first | exact trivial | exact rfl | refine And.intro ?_ ?_)) (by repeat' (first | exact trivial | exact rfl | refine And.intro ?_ ?_)) ?_
  intro i ⟨hi, hne⟩
  refine Spl.of (fun h1 => ?_) (fun h1 => ?_)
  · have hlt : i < l.length := by have := of_decide_eq_true h1; simp at this; omega
    have hx : l[i]? = some l[i] := by simp
    have next : ¬ (l[i].k = k ∧ l[i].i = a) → ∀ (j : Nat) (y : OP), j < i + 1 → l[j]? = some y → ¬ (y.k = k ∧ y.i = a) := fun hn j y hj hy => by
      by_cases h : j = i
      · subst h; rw [hx] at hy; cases hy; exact hn
      · exact hne j y (by omega) hy
    (repeat (first | refine Spl.t rfl ?_ | refine Spl.f rfl ?_))
    refine RegP.of rfl (by decide +kernel) ?_
    refine IdxP.of (opD l[i]) (by omega) (by simp [hx]) ?_
    refine Spl.of (fun h2 => ?_) (fun h2 => ?_)
    · have h2 : l[i].k = k := of_decide_eq_true h2
      (repeat (first | refine Spl.t rfl ?_ | refine Spl.f rfl ?_))
      refine IdxP.of (opD l[i]) (by omega) (by simp [hx]) ?_
      (repeat (first | refine Spl.t rfl ?_ | refine Spl.f rfl ?_))
      refine QuietP.of (O.eqT 3 rfl rfl rfl rfl rfl eqR_ok eqR_g (eqR l[i].i a)) ?_
      (repeat (first | refine Spl.t rfl ?_ | refine Spl.f rfl ?_))
      refine Spl.of (fun h3 => ?_) (fun h3 => ?_)
      · have h3 : l[i].i = a := of_decide_eq_true h3
        (repeat (first | refine Spl.t rfl ?_ | refine Spl.f rfl ?_))
        refine FinP.open rfl (congrArg iv ?_)
        exact (hasIx_at hx ⟨h2, h3⟩ hne).1.symm
      · have h3 : ¬ l[i].i = a := of_decide_eq_false h3
        (repeat (first | refine Spl.t rfl ?_ | refine Spl.f rfl ?_))
        exact ⟨i + 1, ⟨by omega, next fun e => h3 e.2⟩, by omega, ⟨some_iv (wrap_id _ (by omega) (by omega)), trivial⟩, (by repeat' (first | exact trivial | exact rfl | refine And.intro ?_ ?_)), (by repeat' (first | exact trivial | exact rfl | refine And.intro ?_ ?_)), (by repeat' (first | exact trivial | exact rfl | refine And.intro ?_ ?_))⟩
    · have h2 : ¬ l[i].k = k := of_decide_eq_false h2
      (repeat (first | refine Spl.t rfl ?_ | refine Spl.f rfl ?_))
      exact ⟨i + 1, ⟨by omega, next fun e => h2 e.1⟩, by omega, ⟨some_iv (wrap_id _ (by omega) (by omega)), trivial⟩, (by repeat' (first | exact trivial | exact rfl | refine And.intro ?_ ?_)), (by repeat' (first | exact trivial | exact rfl | refine And.intro ?_ ?_)), (by repeat' (first | exact trivial | exact rfl | refine And.intro ?_ ?_))⟩
  · have h1 := of_decide_eq_false h1
    simp at h1
    (repeat (first | refine Spl.t rfl ?_ | refine Spl.f rfl ?_))
    refine FinP.open rfl (congrArg iv ?_)
    exact (hasIx_none fun j x hj => hne j x (by have := (List.getElem?_eq_some_iff.1 hj).1; omega) hj).1.symm
theorem RPlace_c (L : List EL) (a : ID) (hL : L.length ≤ 1000000) : Cv 20 [.d (.sl 4 (L.map elD)), idv a] (iv (placeL a L)) := by
  refine Ct.of_vc Tryz.f20 Tryz.func20 rfl rfl fun w H B g0 => ?_
  refine WJ.loopK (V := Nat) (fun i => [(5, iv i)]) (fun _ => []) [] (fun i => L.length - i) (fun i => i ≤ L.length ∧ ∀ (j : Nat) (y : EL), j < i → L[j]? = some y → y.id ≠ a) 0 ⟨by omega, fun j y h => by omega⟩ (by repeat' (first | exact trivial | exact rfl | refine And.intro ?_ ?_)) (by repeat' (first | exact trivial | exact rfl | refine And.intro ?_ ?_)) ?_
  intro i ⟨hi, hne⟩
  refine Spl.of (fun h1 => ?_) (fun h1 => ?_)
  · have hlt : i < L.length := by have := of_decide_eq_true h1; simp at this; omega
    have hx : L[i]? = some L[i] := by simp
    (repeat (first | refine Spl.t rfl ?_ | refine Spl.f rfl ?_))
    refine RegP.of rfl (by decide +kernel) ?_
    refine IdxP.of (elD L[i]) (by omega) (by simp [hx]) ?_
    refine QuietP.of (O.eqT 3 rfl rfl rfl rfl rfl eqR_ok eqR_g (eqR L[i].id a)) ?_
    refine Spl.of (fun h2 => ?_) (fun h2 => ?_)
    · have he : L[i].id = a := of_decide_eq_true h2
      (repeat (first | refine Spl.t rfl ?_ | refine Spl.f rfl ?_))
      refine FinP.open rfl (congrArg iv ?_)
      exact (placeL_at hx he hne).symm
    · have he : ¬ L[i].id = a := of_decide_eq_false h2
      (repeat (first | refine Spl.t rfl ?_ | refine Spl.f rfl ?_))
      exact ⟨i + 1, ⟨by omega, fun j y hj hy => by
        by_cases h : j = i
        · subst h; rw [hx] at hy; cases hy; exact he
        · exact hne j y (by omega) hy⟩, by omega, ⟨some_iv (wrap_id _ (by omega) (by omega)), trivial⟩, (by repeat' (first | exact trivial | exact rfl | refine And.intro ?_ ?_)), (by repeat' (first | exact trivial | exact rfl | refine And.intro ?_ ?_)), (by repeat' (first | exact trivial | exact rfl | refine And.intro ?_ ?_))⟩
  · have h1 := of_decide_eq_false h1
    simp at h1
    (repeat (first | refine Spl.t rfl ?_ | refine Spl.f rfl ?_))
    refine FinP.open rfl (congrArg iv ?_)
    exact (placeL_none fun e he => by obtain ⟨j, hj⟩ := List.getElem?_of_mem he; exact hne j e (by have := (List.getElem?_eq_some_iff.1 hj).1; omega) hj).symm
end Go.Proofs.E
end
section
open Go Go.Gv
attribute [local irreducible] Go.Gv.WJ Go.Gv.OpJ Go.Gv.QJ Go.Gv.Spl Go.Gv.Req Go.Gv.IdxP Go.Gv.RegP Go.Gv.FinP Go.Gv.CellP Go.Gv.CellsP Go.Gv.ArrP Go.Gv.ArrsP Go.Gv.DropP Go.Gv.ByteP Go.Gv.StoreP
set_option maxRecDepth 100000
namespace Go.Proofs.E
theorem eqRO (o p : OP) : eqT Tryz.prog 4 125 [.int .i64 o.k, .int .i64 o.i.c, .int .i64 o.i.s, .int .i64 o.a.c, .int .i64 o.a.s, .int .i32 o.ch] [.int .i64 p.k, .int .i64 p.i.c, .int .i64 p.i.s, .int .i64 p.a.c, .int .i64 p.a.s, .int .i32 p.ch] = some (decide (o = p)) := by
  show some (decide (o.k = p.k) && ((decide (o.i.c = p.i.c) && (decide (o.i.s = p.i.s) && true)) && ((decide (o.a.c = p.a.c) && (decide (o.a.s = p.a.s) && true)) && (decide (o.ch = p.ch) && true)))) = _
  obtain ⟨a, ⟨b, c⟩, ⟨d, e⟩, f⟩ := o
  obtain ⟨a', ⟨b', c'⟩, ⟨d', e'⟩, f'⟩ := p
  simp [Bool.and_assoc, and_assoc]
theorem eqRO_ok : eqOk Tryz.prog 4 125 = true := by kernel_rfl
theorem eqRO_g : Tryz.prog.eqGuardType Tryz.prog.depth 125 = false := by kernel_rfl
theorem insL_take {l : List OP} {i : Nat} {x : OP} (h : l[i]? = some x) : (insL (l.take (i + 1))).length = (insL (l.take i)).length + (if x.k = 0 then 1 else 0) := by
  rw [take_snoc h]
  by_cases hk : x.k = 0
  · rw [insL_snoc0 hk, if_pos hk, List.length_append]; rfl
  · rw [insL_snoc1 hk, if_neg hk]; rfl
theorem insL_le (l : List OP) : (insL l).length ≤ l.length := List.length_filter_le _ _
theorem RWrong_c (l : List OP) (o : OP) (hl : l.length ≤ 1000000) : Cv 107 [.d (.sl 6 (l.map opD)), opv o] (iv (wrongO l o)) := by
  have h00 := RHas_c l 0 o.i hl
  have h1i := RHas_c l 1 o.i hl
  have h0a := RHas_c l 0 o.a hl
  have isN : ∀ (k : Int) (a : ID), decide (hasIx k a l < 0) = !(findO k a l).isSome := fun k a => by
    rcases hasIx_is k a l with ⟨e1, e2⟩ | ⟨n, x, e1, _, e2⟩
    · rw [e1, e2]; rfl
    · rw [e1, e2, decide_eq_false (by omega)]; rfl
  have isG : ∀ (k : Int) (a : ID), decide (hasIx k a l ≥ 0) = (findO k a l).isSome := fun k a => by
    rcases hasIx_is k a l with ⟨e1, e2⟩ | ⟨n, x, e1, _, e2⟩
    · rw [e1, e2]; rfl
    · rw [e1, e2, decide_eq_true (by omega)]; rfl
  refine Ct.of_wv Tryz.f107 Tryz.func107 rfl rfl fun w H B g0 => ?_
  try refine WJ.cut ?_
  (first | refine Sq.go ?_ | refine vL_nil (Sq.go ?_) | skip)
  try refine WJ.cut ?_
  refine OpJ.callV (RCheck5_c o) (fun _ _ => rfl) rfl rfl rfl ?_
  (first | refine Sq.go ?_ | refine vL_nil (Sq.go ?_) | skip)
  try refine WJ.cut ?_
  refine Spl.of (fun h1 => ?_) (fun h1 => ?_)
  · have h1 : checkO o ≠ 0 := by simpa using h1
    (repeat (first | refine Spl.t rfl ?_ | refine Spl.f rfl ?_))
    refine .out (by simp) ?_
    refine FinP.open rfl (congrArg iv ?_)
    unfold wrongO; rw [if_pos h1]
  have h1 : checkO o = 0 := by simpa using h1
  (first | refine Sq.go ?_ | refine vL_nil (Sq.go ?_) | skip)
  try refine WJ.cut ?_
  refine OpJ.callV h00 (fun _ _ => rfl) rfl rfl rfl ?_
  (first | refine Sq.go ?_ | refine vL_nil (Sq.go ?_) | skip)
  try refine WJ.cut ?_
  refine Spl.of (fun h2 => ?_) (fun h2 => ?_)
  · have h2 : o.k = 1 := of_decide_eq_true h2
    have hw : wrongO l o = if (findO 0 o.i l).isSome = true then (if deadO l o.i = true then 4 else 0) else 6 := by unfold wrongO; rw [if_neg (fun e => e h1), if_pos h2]
    (repeat (first | refine Spl.t rfl ?_ | refine Spl.f rfl ?_))
    refine Spl.of (fun h3 => ?_) (fun h3 => ?_)
    · rw [isN] at h3
      have h3 : (findO 0 o.i l).isSome = false := by simpa using h3
      (repeat (first | refine Spl.t rfl ?_ | refine Spl.f rfl ?_))
      refine .out (by simp) ?_
      refine FinP.open rfl (congrArg iv ?_)
      rw [hw, h3]; rfl
    · rw [isN] at h3
      have h3 : (findO 0 o.i l).isSome = true := by simpa using h3
      rw [if_pos h3] at hw
      (repeat (first | refine Spl.t rfl ?_ | refine Spl.f rfl ?_))
      refine OpJ.callV h1i (fun _ _ => rfl) rfl rfl rfl ?_
      (repeat (first | refine Spl.t rfl ?_ | refine Spl.f rfl ?_))
      refine Spl.of (fun h4 => ?_) (fun h4 => ?_)
      · rw [isG] at h4
        (repeat (first | refine Spl.t rfl ?_ | refine Spl.f rfl ?_))
        refine .out (by simp) ?_
        refine FinP.open rfl (congrArg iv ?_)
        rw [hw, if_pos (show deadO l o.i = true from h4)]
      · rw [isG] at h4
        (repeat (first | refine Spl.t rfl ?_ | refine Spl.f rfl ?_))
        refine .out (by simp) ?_
        refine FinP.open rfl (congrArg iv ?_)
        rw [hw, if_neg (show ¬ deadO l o.i = true by unfold deadO; rw [h4]; decide)]
  have h2 : ¬ o.k = 1 := of_decide_eq_false h2
  have hw : wrongO l o = if findO 0 o.i l = some o then 4 else if (findO 0 o.i l).isSome = true then 5 else if o.a ≠ ⟨0, 0⟩ ∧ (findO 0 o.a l).isSome = false then 6 else if 4096 ≤ (insL l).length then 7 else 0 := by
    unfold wrongO; rw [if_neg (fun e => e h1), if_neg h2]
  (first | refine Sq.go ?_ | refine vL_nil (Sq.go ?_) | skip)
  try refine WJ.cut ?_
  refine RegP.of rfl (by decide +kernel) ?_
  refine Spl.of (fun h3 => ?_) (fun h3 => ?_)
  · -- there is one of that id
    have h3' : 0 ≤ hasIx 0 o.i l := of_decide_eq_true h3
    obtain ⟨n, x, e1, e2, e3⟩ : ∃ (n : Nat) (x : OP), hasIx 0 o.i l = n ∧ l[n]? = some x ∧ findO 0 o.i l = some x := by
      rcases hasIx_is 0 o.i l with ⟨e1, _⟩ | h
      · omega
      · exact h
    have hlt := (List.getElem?_eq_some_iff.1 e2).1
    rw [e3] at hw
    (repeat (first | refine Spl.t rfl ?_ | refine Spl.f rfl ?_))
    refine IdxP.of (opD x) (by rw [e1]; simp; try omega) (by rw [e1]; simp [e2]) ?_
    (repeat (first | refine Spl.t rfl ?_ | refine Spl.f rfl ?_))
    refine QuietP.of (O.eqT 4 rfl rfl rfl rfl rfl eqRO_ok eqRO_g (eqRO x o)) ?_
    refine Spl.of (fun h4 => ?_) (fun h4 => ?_)
    · have h4 : x = o := of_decide_eq_true h4
      (repeat (first | refine Spl.t rfl ?_ | refine Spl.f rfl ?_))
      refine .out (by simp) ?_
      refine FinP.open rfl (congrArg iv ?_)
      rw [hw, if_pos (by rw [h4])]
    · have h4 : ¬ x = o := of_decide_eq_false h4
      (repeat (first | refine Spl.t rfl ?_ | refine Spl.f rfl ?_))
      (first | refine Sq.go ?_ | refine vL_nil (Sq.go ?_) | skip)
      try refine WJ.cut ?_
      refine Spl.t h3 ?_
      (repeat (first | refine Spl.t rfl ?_ | refine Spl.f rfl ?_))
      refine .out (by simp) ?_
      refine FinP.open rfl (congrArg iv ?_)
      rw [hw, if_neg (fun e => h4 (Option.some.inj e))]; simp
  · have h3' : ¬ 0 ≤ hasIx 0 o.i l := of_decide_eq_false h3
    have e3 : findO 0 o.i l = none := by
      rcases hasIx_is 0 o.i l with ⟨_, e2⟩ | ⟨n, x, e1, _⟩
      · exact e2
      · omega
    rw [e3, if_neg (by simp), if_neg (by simp)] at hw
    (repeat (first | refine Spl.t rfl ?_ | refine Spl.f rfl ?_))
    (first | refine Sq.go ?_ | refine vL_nil (Sq.go ?_) | skip)
    try refine WJ.cut ?_
    refine Spl.f h3 ?_
    (first | refine Sq.go ?_ | refine vL_nil (Sq.go ?_) | skip)
    try refine WJ.cut ?_
    refine OpJ.qu (O.neT 3 rfl rfl rfl rfl rfl eqR_ok eqR_g (eqR o.a ⟨0, 0⟩)) rfl ?_
    refine Spl.of (fun h4 => ?_) (fun h4 => ?_)
    · have h4 : o.a ≠ ⟨0, 0⟩ := by simpa using h4
      (repeat (first | refine Spl.t rfl ?_ | refine Spl.f rfl ?_))
      refine OpJ.callV h0a (fun _ _ => rfl) rfl rfl rfl ?_
      (repeat (first | refine Spl.t rfl ?_ | refine Spl.f rfl ?_))
      refine Spl.of (fun h5 => ?_) (fun h5 => ?_)
      · rw [isN] at h5
        have h5 : (findO 0 o.a l).isSome = false := by simpa using h5
        (repeat (first | refine Spl.t rfl ?_ | refine Spl.f rfl ?_))
        refine .out (by simp) ?_
        refine FinP.open rfl (congrArg iv ?_)
        rw [hw, if_pos ⟨h4, h5⟩]
      · rw [isN] at h5
        have h5 : (findO 0 o.a l).isSome = true := by simpa using h5
        have hno : ¬ (o.a ≠ ⟨0, 0⟩ ∧ (findO 0 o.a l).isSome = false) := fun e => by rw [h5] at e; cases e.2
        (repeat (first | refine Spl.t rfl ?_ | refine Spl.f rfl ?_))
        ((first | refine Sq.go ?_ | refine vL_nil (Sq.go ?_) | skip); try refine WJ.cut ?_; (first | refine Sq.go ?_ | refine vL_nil (Sq.go ?_) | skip); try refine WJ.cut ?_; refine WJ.loopK (V := Nat) (fun i => [(8, iv i), (7, iv ((insL (l.take i)).length : Nat))]) (fun _ => []) [] (fun i => l.length - i) (fun i => i ≤ l.length) 0 (by omega) ⟨rfl, rfl, trivial⟩ (by repeat' (first | exact trivial | exact rfl | refine And.intro ?_ ?_)) ?_; intro i hi; have hci := insL_le (l.take i); have htl := List.length_take (i := i) (l := l); (refine Spl.of (fun g1 => ?_) (fun g1 => ?_); (have hlt : i < l.length := (by have := of_decide_eq_true g1; simp at this; omega); have hx : l[i]? = some l[i] := (by simp); have hsn := insL_take hx; (repeat (first | refine Spl.t rfl ?_ | refine Spl.f rfl ?_)); refine IdxP.of (opD l[i]) (by omega) (by simp [hx]) ?_; refine Spl.of (fun g2 => ?_) (fun g2 => ?_); (have g2 : l[i].k = 0 := of_decide_eq_true g2; rw [if_pos g2] at hsn; (repeat (first | refine Spl.t rfl ?_ | refine Spl.f rfl ?_)); exact ⟨i + 1, by omega, by omega, ⟨some_iv (wrap_id _ (by omega) (by omega)), some_iv (by rw [wrap_id _ (by omega) (by omega), hsn]; omega), trivial⟩, (by repeat' (first | exact trivial | exact rfl | refine And.intro ?_ ?_)), (by repeat' (first | exact trivial | exact rfl | refine And.intro ?_ ?_)), (by repeat' (first | exact trivial | exact rfl | refine And.intro ?_ ?_))⟩); (have g2 : ¬ l[i].k = 0 := of_decide_eq_false g2; rw [if_neg g2] at hsn; (repeat (first | refine Spl.t rfl ?_ | refine Spl.f rfl ?_)); exact ⟨i + 1, by omega, by omega, ⟨some_iv (wrap_id _ (by omega) (by omega)), some_iv (by rw [hsn]; rfl), trivial⟩, (by repeat' (first | exact trivial | exact rfl | refine And.intro ?_ ?_)), (by repeat' (first | exact trivial | exact rfl | refine And.intro ?_ ?_)), (by repeat' (first | exact trivial | exact rfl | refine And.intro ?_ ?_))⟩)); (have g1 := of_decide_eq_false g1; simp at g1; have hall : l.take i = l := List.take_of_length_le (by omega); rw [hall]; (repeat (first | refine Spl.t rfl ?_ | refine Spl.f rfl ?_)); (first | refine Sq.go ?_ | refine vL_nil (Sq.go ?_) | skip); try refine WJ.cut ?_; refine Spl.of (fun g3 => ?_) (fun g3 => ?_); (have g3 := of_decide_eq_true g3; (repeat (first | refine Spl.t rfl ?_ | refine Spl.f rfl ?_)); refine .out (by simp) ?_; refine FinP.open rfl (congrArg iv ?_); rw [hw, if_neg hno, if_pos (by omega)]); (have g3 := of_decide_eq_false g3; (first | refine Sq.go ?_ | refine vL_nil (Sq.go ?_) | skip); try refine vc_sound _ _ _ _ ?_; refine FinP.open rfl (congrArg iv ?_); rw [hw, if_neg hno, if_neg (by omega)]))))
    · have h4 : o.a = ⟨0, 0⟩ := by simpa using h4
      have hno : ¬ (o.a ≠ ⟨0, 0⟩ ∧ (findO 0 o.a l).isSome = false) := fun e => e.1 h4
      (repeat (first | refine Spl.t rfl ?_ | refine Spl.f rfl ?_))
      ((first | refine Sq.go ?_ | refine vL_nil (Sq.go ?_) | skip); try refine WJ.cut ?_; (first | refine Sq.go ?_ | refine vL_nil (Sq.go ?_) | skip); try refine WJ.cut ?_; refine WJ.loopK (V := Nat) (fun i => [(8, iv i), (7, iv ((insL (l.take i)).length : Nat))]) (fun _ => []) [] (fun i => l.length - i) (fun i => i ≤ l.length) 0 (by omega) ⟨rfl, rfl, trivial⟩ (by repeat' (first | exact trivial | exact rfl | refine And.intro ?_ ?_)) ?_; intro i hi; have hci := insL_le (l.take i); have htl := List.length_take (i := i) (l := l); (refine Spl.of (fun g1 => ?_) (fun g1 => ?_); (have hlt : i < l.length := (by have := of_decide_eq_true g1; simp at this; omega); have hx : l[i]? = some l[i] := (by simp); have hsn := insL_take hx; (repeat (first | refine Spl.t rfl ?_ | refine Spl.f rfl ?_)); refine IdxP.of (opD l[i]) (by omega) (by simp [hx]) ?_; refine Spl.of (fun g2 => ?_) (fun g2 => ?_); (have g2 : l[i].k = 0 := of_decide_eq_true g2; rw [if_pos g2] at hsn; (repeat (first | refine Spl.t rfl ?_ | refine Spl.f rfl ?_)); exact ⟨i + 1, by omega, by omega, ⟨some_iv (wrap_id _ (by omega) (by omega)), some_iv (by rw [wrap_id _ (by omega) (by omega), hsn]; omega), trivial⟩, (by repeat' (first | exact trivial | exact rfl | refine And.intro ?_ ?_)), (by repeat' (first | exact trivial | exact rfl | refine And.intro ?_ ?_)), (by repeat' (first | exact trivial | exact rfl | refine And.intro ?_ ?_))⟩); (have g2 : ¬ l[i].k = 0 := of_decide_eq_false g2; rw [if_neg g2] at hsn; (repeat (first | refine Spl.t rfl ?_ | refine Spl.f rfl ?_)); exact ⟨i + 1, by omega, by omega, ⟨some_iv (wrap_id _ (by omega) (by omega)), some_iv (by rw [hsn]; rfl), trivial⟩, (by repeat' (first | exact trivial | exact rfl | refine And.intro ?_ ?_)), (by repeat' (first | exact trivial | exact rfl | refine And.intro ?_ ?_)), (by repeat' (first | exact trivial | exact rfl | refine And.intro ?_ ?_))⟩)); (have g1 := of_decide_eq_false g1; simp at g1; have hall : l.take i = l := List.take_of_length_le (by omega); rw [hall]; (repeat (first | refine Spl.t rfl ?_ | refine Spl.f rfl ?_)); (first | refine Sq.go ?_ | refine vL_nil (Sq.go ?_) | skip); try refine WJ.cut ?_; refine Spl.of (fun g3 => ?_) (fun g3 => ?_); (have g3 := of_decide_eq_true g3; (repeat (first | refine Spl.t rfl ?_ | refine Spl.f rfl ?_)); refine .out (by simp) ?_; refine FinP.open rfl (congrArg iv ?_); rw [hw, if_neg hno, if_pos (by omega)]); (have g3 := of_decide_eq_false g3; (first | refine Sq.go ?_ | refine vL_nil (Sq.go ?_) | skip); try refine vc_sound _ _ _ _ ?_; refine FinP.open rfl (congrArg iv ?_); rw [hw, if_neg hno, if_neg (by omega)]))))
end Go.Proofs.E
end
section
namespace Go.Gv
open Go.RowKit
theorem add_zero' (A : Addr) : A.add 0 = A := by simp [Addr.add]
section cut
variable {X : Cx} {d : Option Nat} {ty : TypeId} {pos : String} {aft : Array Edge} {g : Option (Nat × Bool)} {t : T} {σ : Sg} {K : T → Sg → Prop}
/-- The first of a private row. -/
theorem O.cutPre {st e : TypeId} {x ho : Operand} {i k n : Nat} {kk : IntKind} {m : Int} (hx : ge t x = some (.arr i k n)) (hho : ge t ho = some (.d (.v (.int kk m)))) (hu : X.P.underlying st = some (.slice e)) (hs : szOf X.P e = some k) (h0 : 0 ≤ m) (h1 : m ≤ (n : Int)) :
    QJ X ⟨d, .slice st x none (some ho) none, ty, pos, aft, g⟩ t σ (.suf i k 0 m.toNat) :=
  QJ.value (by simp) (fun γ H ac w so sm => by
    have hr := so x (by simp [Op.operands]) _ hx
    generalize hq : ac.eval x = q at hr
    cases hr with
    | arr _ _ _ A hn hA =>
      have hb := bounds_run (P := X.P) (w := w) (γ := γ) (H := H) (a := ac) (isS := true) (lo := none) (hi := some ho) (len := n) (cap := (γ i).n) (t := t) (l := 0) (h := m) rfl (by simp [hiV, hho]) (by omega) h0 h1 hn (fun y hy v hv => so y (by
        rcases hy with hy | hy
        · cases hy
        · cases hy; simp [Op.operands]) v hv)
      refine ⟨.slice A m.toNat (γ i).n, ?_, .suf i k 0 m.toNat A (by omega) (fun h => by rw [hA h, Nat.zero_mul])⟩
      simp only [Option.map_none, Option.map_some] at hb
      simp only [execOp, hq, Instr.sliceAt, Instr.slice, Sem.run_bind, run_underlying hu, Result.andThen_ok, Option.map_none, Option.map_some, hb, szOf_run hs, Sem.run_pure]
      simp only [Int.toNat_zero, Nat.zero_mul, Nat.sub_zero]
      have : (A.map fun x => x.add 0) = A := by cases A <;> simp [add_zero']
      simp [this])
/-- A private row from a place on. -/
theorem O.cutSuf {st e : TypeId} {x lo : Operand} {i k n : Nat} {kk : IntKind} {m : Int} (hx : ge t x = some (.arr i k n)) (hlo : ge t lo = some (.d (.v (.int kk m)))) (hu : X.P.underlying st = some (.slice e)) (hs : szOf X.P e = some k) (h0 : 0 ≤ m) (h1 : m ≤ (n : Int)) :
    QJ X ⟨d, .slice st x (some lo) none none, ty, pos, aft, g⟩ t σ (.suf i k m.toNat (n - m.toNat)) :=
  QJ.value (by simp) (fun γ H ac w so sm => by
    have hr := so x (by simp [Op.operands]) _ hx
    generalize hq : ac.eval x = q at hr
    cases hr with
    | arr _ _ _ A hn hA =>
      have hb := bounds_run (P := X.P) (w := w) (γ := γ) (H := H) (a := ac) (isS := true) (lo := some lo) (hi := none) (len := n) (cap := (γ i).n) (t := t) (l := m) (h := n) (by simp [loV, hlo]) rfl h0 h1 (by omega) hn (fun y hy v hv => so y (by
        rcases hy with hy | hy
        · cases hy; simp [Op.operands]
        · cases hy) v hv)
      refine ⟨.slice (if (γ i).n = m.toNat then A else A.map (·.add (m.toNat * k))) (n - m.toNat) ((γ i).n - m.toNat), ?_, .suf i k m.toNat (n - m.toNat) _ (by omega) (fun h => ?_)⟩
      · simp only [Option.map_none, Option.map_some] at hb
        simp only [execOp, hq, Instr.sliceAt, Instr.slice, Sem.run_bind, run_underlying hu, Result.andThen_ok, Option.map_none, Option.map_some, hb, szOf_run hs, Sem.run_pure]
        simp
      · rw [if_neg (by omega), hA (by omega)]
        simp only [Option.map_some, Addr.add]
        split
        · next e => rw [e]
        · simp)
/-- The rows that an operand holds, as they can be copied. -/
structure Flat (X : Cx) (H : HF) (w : World) (u : Value) (k : Nat) (ys : List (List D)) (vs : List Value) : Prop where
  fc : ∀ w' : World, w'.heap = w.heap → (Builtin.firstCells k ys.length u).run X.P w' = .ok vs.toArray w'
  ln : ∀ w' : World, (Builtin.lenOf u).run X.P w' = .ok ys.length w'
  vl : vs.length = ys.length * k
  yk : ∀ cs, cs ∈ ys → cs.length = k
  rp : ∀ (j l : Nat) (cs : List D) (a : D) (u : Value), ys[j]? = some cs → cs[l]? = some a → vs[j * k + l]? = some u → RepD H a u
def FlatQ (X : Cx) (t : T) (σ : Sg) (y : Operand) (k : Nat) (ys : List (List D)) : Prop := ∀ γ H (a : Act) w, (∀ v, ge t y = some v → Rep γ H v (a.eval y)) → Mem X.w0 X.H0 X.B γ H σ w → ∃ vs, Flat X H w (a.eval y) k ys vs
theorem FlatQ.suf {y : Operand} {i k l n : Nat} {xs : List (List D)} (hy : ge t y = some (.suf i k l n)) (hi : look i σ = some (.arr k xs)) (hl : l + n ≤ xs.length) : FlatQ X t σ y k ((xs.drop l).take n) := by
  intro γ H a w so sm
  have hr := so _ hy
  generalize hq : a.eval y = q at hr
  cases hr with
  | suf _ _ _ _ A hn hA =>
  obtain ⟨hle, hxk, hreal⟩ := sm.ent i _ hi
  have hlen : ((xs.drop l).take n).length = n := by simp; omega
  have hget : ∀ j cs, ((xs.drop l).take n)[j]? = some cs → xs[l + j]? = some cs ∧ j < n := fun j cs hj => by
    rw [List.getElem?_take] at hj
    split at hj
    · rw [List.getElem?_drop] at hj; exact ⟨hj, by assumption⟩
    · cases hj
  by_cases h0 : n = 0
  · subst h0
    refine ⟨[], fun w' _ => ?_, fun w' => ?_, by simp, fun cs hcs => by simp at hcs, fun j l' cs a' u h => by simp at h⟩
    · rw [hlen]; cases A <;> simp [Builtin.firstCells, loadCells, loadCellsFrom]
    · rw [hlen]; exact lenOf_sl
  · have hA' := hA (by omega)
    subst hA'
    obtain ⟨tt, us, h3, h4, h5⟩ := hreal (by omega)
    have hfit : l * k + n * k ≤ us.length := by rw [h4, ← Nat.add_mul]; exact Nat.mul_le_mul_right _ hn
    refine ⟨(us.drop (l * k)).take (n * k), fun w' hw' => ?_, fun w' => ?_, ?_, fun cs hcs => hxk cs (List.mem_of_mem_drop (List.mem_of_mem_take hcs)), fun j l' cs a' u hj hl' hu => ?_⟩
    · rw [hlen]
      have := load_cells (P := X.P) (w := w') (b := (γ i).b) (vs := fun p => us.getD (l * k + p) undef) (n * k) (l * k) 0 #[] (fun p hp => by
        have h6 : w'.heap[(γ i).b]? = some (.cells us.toArray tt (0, 0)) := by rw [hw']; exact h3
        rw [cell_of_block h6]
        simp [List.getElem?_eq_getElem (show l * k + p < us.length by omega)])
      simp only [Builtin.firstCells, loadCells]
      rw [this]
      congr 1
      apply Array.toList_inj.1
      simp only [List.nil_append, List.append_toArray, List.toList_toArray, Array.toList_append]
      apply List.ext_getElem?
      intro p
      simp only [List.getElem?_map, List.getElem?_take, List.getElem?_drop]
      by_cases hp : p < n * k
      · rw [if_pos hp, List.getElem?_range' (by omega)]
        simp [List.getElem?_eq_getElem (show l * k + p < us.length by omega)]
      · rw [if_neg hp, List.getElem?_eq_none (by simp; omega)]; rfl
    · rw [hlen]; exact lenOf_sl
    · rw [List.length_take, List.length_drop, hlen]; omega
    · obtain ⟨h6, h7⟩ := hget j cs hj
      rw [List.getElem?_take] at hu
      split at hu
      · rw [List.getElem?_drop] at hu
        refine h5 (l + j) l' cs a' u h6 hl' ?_
        rw [Nat.add_mul, Nat.add_assoc]; exact hu
      · cases hu
/-- What is data can be copied. -/
theorem FlatQ.data {y : Operand} {k : Nat} {ys : List (List D)} {av : AV} (hy : ge t y = some av) (hel : elems av = some (k, ys)) : FlatQ X t σ y k ys := by
  intro γ H a w so sm
  have hry := rep_elems (so _ hy) hel
  obtain ⟨hyk, hylen⟩ := repd_sl_len hry
  obtain ⟨B, cy, vs, hqy, hfc, hvl, hvone, hvrep⟩ := repd_flat (P := X.P) hry
  refine ⟨vs, fun w' hw' => hfc w' fun b o v h => ?_, fun w' => by rw [hqy]; exact lenOf_sl, hvl, hyk, hvrep⟩
  have := sm.hok.c b o v h
  simp only [World.cell?, hw'] at this ⊢; exact this
/-- append onto data that has no room, of what can be copied: given to all at once; it turns nothing that is there. -/
theorem QJ.appendG {x y : Operand} {st xt el : TypeId} {k bytes : Nat} {z : Value} {xs ys : List (List D)} {av0 : AV} (hx : ge t x = some av0) (hfu : FullIs av0 k xs) (hy : FlatQ X t σ y k ys)
    (hu : X.P.underlying st = some (.slice el)) (hxu : X.P.underlying xt = some (.slice el)) (hz : ∀ w, (sizeOf el).run X.P w = .ok k w) (hzv : ∀ w, (zeroValue el).run X.P w = .ok z w) (hzl : z.cells.size = k)
    (hb : ∀ w, ((fun i : TypeInfo => i.bytes) <$> typeInfo el).run X.P w = .ok bytes w) (hb0 : bytes ≠ 0) (hbytes : (3 * (xs.length + ys.length) + 4096) * bytes ≤ 281474976710656)
    (hm : xs.length + ys.length ≤ 9223372036854775807) :
    QJ X ⟨d, .call { callee := .builtin .append, args := #[x, y], argTypes := #[st, xt] }, ty, pos, aft, g⟩ t σ (.d (.sl k (xs ++ ys))) := by
  intro γ H a w hl so sm next Q' hk
  obtain ⟨A, hq, hrx⟩ := hfu.rep (so x (by simp [Op.operands, Call.operands]) _ hx)
  obtain ⟨hxk, _⟩ := repd_sl_len hrx
  obtain ⟨vs, hfv⟩ := hy γ H a w (fun v hv => so y (by simp [Op.operands, Call.operands]) v hv) sm
  obtain ⟨Bx, cx, us, hqx, hfx, hul, huone, hurep⟩ := repd_flat (P := X.P) hrx
  have hexec : ∀ r : Result Value, (Builtin.append_ #[st, xt] ty #[.slice A xs.length xs.length, a.eval y]).run X.P w = r → (execOp a.eval ⟨d, .call { callee := .builtin .append, args := #[x, y], argTypes := #[st, xt] }, ty, pos, aft, g⟩).run X.P w =
      r.andThen fun v w => .ok (.value v) w := fun r h => by
    simp only [execOp, resolve, invoke, builtin, List.map_toArray, List.map_cons, List.map_nil, Sem.run_bind, Sem.run_pure, Result.andThen_ok, hq, h]
  by_cases hroom : xs.length + ys.length ≤ xs.length
  · have hy0 : ys = [] := List.length_eq_zero_iff.1 (by omega)
    subst hy0
    have hrun := append_room (P := X.P) (w := w) (ty := ty) (A := A) (n := xs.length) (c := xs.length) hu hxu hz hfv.ln (hfv.fc w rfl) (Nat.le_refl _)
    have hv0 : vs = [] := List.length_eq_zero_iff.1 (by rw [hfv.vl]; simp)
    subst hv0
    have hrun' : (Builtin.append_ #[st, xt] ty #[.slice A xs.length xs.length, a.eval y]).run X.P w = .ok (.slice A xs.length xs.length) w := by
      rw [hrun]; cases A <;> simp [storeCells]
    rw [semAt_of (by simp), hexec _ hrun', Result.andThen_ok, Oper.uponIn_value]
    refine hk _ γ [] H w (sm.refl γ) (.d _ _ ?_)
    rw [List.append_nil]
    rw [hq] at hrx; exact hrx
  · have hus : ∀ w' : World, w'.heap = w.heap → (Builtin.firstCells k xs.length (.slice A xs.length xs.length)).run X.P w' = .ok us.toArray w' := fun w' hw' => by
      rw [← hq]
      exact hfx w' fun b o v h => by
        have := sm.hok.c b o v h
        simp only [World.cell?, hw'] at this ⊢; exact this
    obtain ⟨cap, hcap, hrun⟩ := append_grow (P := X.P) (w := w) (ty := ty) (A := A) (n := xs.length) (c := xs.length) (us := us) (vs := vs) hu hxu hz hzv hb hfv.ln hfv.fc hus (by omega) hbytes hb0
    rw [semAt_of (by simp), hexec _ hrun, Result.andThen_ok, Oper.uponIn_value]
    have hzc : (Builtin.zeroCells z.cells (cap - (xs.length + ys.length))).toList.length = (cap - (xs.length + ys.length)) * k := by
      simp [Builtin.zeroCells, hzl]
    have hm0 := sm.drew.new 0 (.arr k (xs ++ ys)) (.cells (us ++ vs ++ (Builtin.zeroCells z.cells (cap - (xs.length + ys.length))).toList).toArray el) cap
      ⟨by rw [upd_same, List.length_append]; exact hcap, fun cs hcs => by rcases List.mem_append.1 hcs with h | h; exact hxk cs h; exact hfv.yk cs h, fun _ => by
        rw [upd_same]
        refine ⟨el, _, World.alloc_heap_new _ _, ?_, ?_⟩
        · rw [List.length_append, List.length_append, hzc, hul, hfv.vl, ← Nat.add_mul, ← Nat.add_mul]
          congr 1
          show xs.length + ys.length + (cap - (xs.length + ys.length)) = cap
          omega
        · have hvl := hfv.vl
          refine arr_snoc hxk hfv.yk hurep hfv.rp (fun p hp => ?_) (fun p hp => ?_)
          · rw [List.append_assoc, List.getElem?_append_left (by omega)]
          · rw [List.append_assoc, List.getElem?_append_right (by omega), hul, show xs.length * k + p - xs.length * k = p from by omega, List.getElem?_append_left (by omega)]⟩ (fun _ _ h => by cases h)
    have hm' : Mem w H (fun _ => False) (upd γ 0 ⟨w.heap.size, cap, fun _ => False⟩) H [(0, .arr k (xs ++ ys))] (w.drew.alloc (.cells (us ++ vs ++ (Builtin.zeroCells z.cells (cap - (xs.length + ys.length))).toList).toArray el)) :=
      ⟨⟨hm0.keep.os, hm0.keep.tape, hm0.keep.output, hm0.keep.size, hm0.keep.block⟩, hm0.hle, ⟨hm0.hnew.c, hm0.hnew.m⟩, hm0.hok, hm0.ent, hm0.free, hm0.fresh, hm0.apart⟩
    have hl0 : look 0 ([(0, Ent.arr k (xs ++ ys))] : Sg) = some (.arr k (xs ++ ys)) := by rw [look_cons, if_pos rfl]
    obtain ⟨H', ok, hk2⟩ := hm'.pub hl0 rfl
    have hj := hm'.join (σr := []) hk2 (fun b hb => ⟨0, _, hl0, rfl, hb⟩) (Wk.nil _) (fun i e h => by cases h) (fun i e h => by cases h)
    refine hk _ _ _ H' _ hj (.d _ _ ?_)
    have h3 := ok (xs.length + ys.length) (some ⟨w.heap.size, 0, none⟩) (by simp) (by rw [upd_same]; exact hcap) (fun _ => by rw [upd_same]) hm
    rw [List.take_of_length_le (by simp), upd_same] at h3
    exact h3
theorem QJ.appG {x y : Operand} {st xt : TypeId} {k : Nat} {xs ys : List (List D)} {av0 : AV} (hx : ge t x = some av0) (hfu : FullIs av0 k xs) (hy : FlatQ X t σ y k ys) (hI : elInfo X.P st xt = some k) (hb : xs.length + ys.length ≤ 1000000000) :
    QJ X ⟨d, .call { callee := .builtin .append, args := #[x, y], argTypes := #[st, xt] }, ty, pos, aft, g⟩ t σ (.d (.sl k (xs ++ ys))) := by
  obtain ⟨el, z, bytes, h1, h2, h3, h4, h5, h6, h7, h8⟩ := elInfo_out hI
  exact QJ.appendG hx hfu hy h1 h2 h3 h4 h5 h6 h7 (bytes_fit hb h8) (by omega)
/-- The first of a private row, as a row. -/
theorem SJ.sufArr (j : Nat) {i k n : Nat} (hj : look j t = some (.suf i k 0 n)) : SJ X t σ ((j, .arr i k n) :: t) σ :=
  SJ.view j hj fun γ H u r => by
    cases r with
    | suf _ _ _ _ A hn hA =>
      rw [Nat.sub_zero]
      exact .arr i k n A (by omega) (fun h => by rw [hA h, Nat.zero_mul])
/-- Less is known of a private row. -/
theorem SJ.cutA (i m : Nat) {k : Nat} {xs : List (List D)} (hi : look i σ = some (.arr k xs)) : SJ X t σ t ((i, .arr k (xs.take m)) :: σ) := fun γ H a w s => by
  have g : ∀ j f, look j ((i, Ent.arr k (xs.take m)) :: σ) = some f → ∀ b, blk γ j f b → ∃ f', look j σ = some f' ∧ blk γ j f' b := fun j f hj b hb => by
    rw [look_cons] at hj
    split at hj
    · next e => subst e; cases hj; exact ⟨_, hi, hb⟩
    · exact ⟨f, hj, hb⟩
  refine ⟨γ, H, s.lam, s.round, let ⟨ms, h1, h2⟩ := s.defers; ⟨ms, h1, h2.1, fun b hb => ⟨(h2.2 b hb).1, (h2.2 b hb).2.1, fun ⟨j, f, hj, hbb⟩ => (h2.2 b hb).2.2 (let ⟨f', h3, h4⟩ := g j f hj b hbb; ⟨j, f', h3, h4⟩)⟩⟩, s.size, s.pinned, s.tmp,
    s.mem.keep, s.mem.hle, s.mem.hnew, s.mem.hok, fun j f hj => ?_, fun j f hj b hb => let ⟨f', h3, h4⟩ := g j f hj b hb; s.mem.free j f' h3 b h4, fun j f hj b hb => let ⟨f', h3, h4⟩ := g j f hj b hb; s.mem.fresh j f' h3 b h4,
    fun j f k f2 b hj hk hb hb' => let ⟨f', h3, h4⟩ := g j f hj b hb; let ⟨f2', h5, h6⟩ := g k f2 hk b hb'; s.mem.apart j f' k f2' b h3 h5 h4 h6⟩
  rw [look_cons] at hj
  split at hj
  · next e =>
    subst e; cases hj
    obtain ⟨h1, h2, h3⟩ := s.mem.ent j _ hi
    refine ⟨Nat.le_trans (by rw [List.length_take]; omega) h1, fun cs hcs => h2 cs (List.mem_of_mem_take hcs), fun hc => ?_⟩
    obtain ⟨tt, us, h4, h5, h6⟩ := h3 hc
    refine ⟨tt, us, h4, h5, fun j l cs a u hj hl hu => ?_⟩
    rw [List.getElem?_take] at hj
    split at hj
    · exact h6 j l cs a u hj hl hu
    · cases hj
  · exact s.mem.ent j f hj
end cut
end Go.Gv
namespace Go.Gv
open Go.RowKit
/-! ### A call that reads a private row, and hands back rows of another kind -/
def HF.cut (H : HF) (b : Nat) : HF := ⟨fun c o => if c = b then none else H.c c o, fun c => if c = b then none else H.m c⟩
/-- An argument, as a reader of the row i takes it. -/
inductive Rd (i k n : Nat) (xs : List (List D)) : List AV → List AV → Prop where
  | nil : Rd i k n xs [] []
  | same (a : AV) {l m : List AV} (h : a.open = true) (r : Rd i k n xs l m) : Rd i k n xs (a :: l) (a :: m)
  | row {l m : List AV} (r : Rd i k n xs l m) : Rd i k n xs (.arr i k n :: l) (.d (.sl k xs) :: m)
theorem Rd.get {i k n : Nat} {xs : List (List D)} {l m : List AV} (h : Rd i k n xs l m) : l.length = m.length ∧ ∀ (j : Nat) (b : AV), m[j]? = some b → ∃ a, l[j]? = some a ∧ ((a = b ∧ a.open = true) ∨ (a = .arr i k n ∧ b = .d (.sl k xs))) := by
  induction h with
  | nil => exact ⟨rfl, fun j b h => by simp at h⟩
  | same a ho _ ih =>
    refine ⟨by simp [ih.1], fun j b hb => ?_⟩
    cases j with
    | zero => simp at hb; exact ⟨a, rfl, .inl ⟨hb, ho⟩⟩
    | succ j => exact ih.2 j b (by simpa using hb)
  | row _ ih =>
    refine ⟨by simp [ih.1], fun j b hb => ?_⟩
    cases j with
    | zero => simp at hb; exact ⟨_, rfl, .inr ⟨rfl, hb.symm⟩⟩
    | succ j => exact ih.2 j b (by simpa using hb)
end Go.Gv
namespace Go.Gv
open Go.RowKit
section nilsl
variable {X : Cx} {d : Option Nat} {ty : TypeId} {pos : String} {aft : Array Edge} {g : Option (Nat × Bool)} {t : T} {σ : Sg} {K : T → Sg → Prop}
theorem eqn_slice' {P : Program} {tt e : TypeId} {w : World} (n : Nat) {A : Option Addr} {a b : Nat} (hu : P.underlying tt = some (.slice e)) : (Op.equalIn (n + 1) tt (.slice A a b) (.slice none 0 0)).run P w = .ok A.isNone w := by cases A <;> simp [Op.equalIn, underlying, hu]
/-- Is a slice nil? One that is not empty isn't. -/
theorem O.eqNil {x y : Operand} {ot yt e : TypeId} {k : Nat} {xs : List (List D)} (hx : ge t x = some (.d (.sl k xs))) (hy : ge t y = some (.d (.v (.slice none 0 0)))) (hu : X.P.underlying ot = some (.slice e)) (hN : dOk d X.N = true)
    (kk : ∀ b : Bool, (b = true → xs = []) → K (putT d (.d (.v (.bool b))) t) σ) : OpJ X ⟨d, .binOp .eql ot x y yt, ty, pos, aft, g⟩ t σ K := by
  intro γ H a w s next Q' hk
  have hr := rep_d (ge_sound s.tmp hx)
  have e2 := rep_v (ge_sound s.tmp hy)
  generalize hq : a.eval x = q at hr
  cases hr with
  | sl _ _ A c b o us hkk hn hc hA hH hrr =>
  have hexec : (execOp a.eval ⟨d, .binOp .eql ot x y yt, ty, pos, aft, g⟩).run X.P w = .ok (.value (.bool A.isNone)) w := by
    have h9 : (Op.equal ot (.slice A xs.length c) (.slice none 0 0)).run X.P w = .ok A.isNone w := equal_at.trans (eqn_slice' 9999 hu)
    simp [execOp, hq, e2, eqGuard, binOp, h9]
  rw [semAt_of (by simp), hexec, Oper.uponIn_value]
  refine hk γ H _ _ _ w (s.calm (d := d) (V := .d (.v (.bool A.isNone))) (s.mem.refl γ) hN (.d _ _ (.v _ rfl))) (kk _ fun hb => ?_)
  rcases Nat.eq_zero_or_pos xs.length with h | h
  · exact List.length_eq_zero_iff.1 h
  · rw [hA h] at hb; cases hb
end nilsl
/-- A contract, its arguments told otherwise. -/
theorem Ct.view {Λ : Amb} {P : Program} {f : FuncId} {avs bvs : List AV} {σ : Sg} {Q : AV → Sg → Prop} (h : Ct Λ P f avs σ Q) (hl : bvs.length = avs.length)
    (hv : ∀ (j : Nat) (a b : AV), avs[j]? = some a → bvs[j]? = some b → ∀ γ H u, Rep γ H b u → Rep γ H a u) : Ct Λ P f bvs σ Q :=
  fun ro γ H w vs h1 h2 h3 h4 => h ro γ H w vs h1 h2 (h3.trans hl) fun j a u ha hu => by
    have hj : j < bvs.length := by rw [hl]; exact (List.getElem?_eq_some_iff.1 ha).1
    exact hv j a bvs[j] ha (by simp [hj]) γ H u (h4 j bvs[j] u (by simp [hj]) hu)
end Go.Gv
namespace Go.Gv
open Go.RowKit
section birth
variable {X : Cx} {d : Option Nat} {ty : TypeId} {pos : String} {aft : Array Edge} {g : Option (Nat × Bool)} {t : T} {σ : Sg}
/-- append onto data that has no room: the birth of a private row. -/
theorem B.appendF {i : Nat} {x y : Operand} {st xt el : TypeId} {k bytes : Nat} {z : Value} {xs ys : List (List D)} {av0 : AV} (hx : ge t x = some av0) (hfu : FullIs av0 k xs) (hy : FlatQ X t σ y k ys)
    (hu : X.P.underlying st = some (.slice el)) (hxu : X.P.underlying xt = some (.slice el)) (hz : ∀ w, (sizeOf el).run X.P w = .ok k w) (hzv : ∀ w, (zeroValue el).run X.P w = .ok z w) (hzl : z.cells.size = k)
    (hb : ∀ w, ((fun i : TypeInfo => i.bytes) <$> typeInfo el).run X.P w = .ok bytes w) (hb0 : bytes ≠ 0) (hbytes : (3 * (xs.length + ys.length) + 4096) * bytes ≤ 281474976710656) (hne : ys ≠ [] ∨ xs = []) :
    BirthJ X ⟨d, .call { callee := .builtin .append, args := #[x, y], argTypes := #[st, xt] }, ty, pos, aft, g⟩ t σ i (.arr i k (xs.length + ys.length)) (.arr k (xs ++ ys)) := by
  intro γ H a w so sm
  obtain ⟨A, hq, hrx⟩ := hfu.rep (so x (by simp [Op.operands, Call.operands]) _ hx)
  obtain ⟨hxk, _⟩ := repd_sl_len hrx
  obtain ⟨vs, hfv⟩ := hy γ H a w (fun v hv => so y (by simp [Op.operands, Call.operands]) v hv) sm
  obtain ⟨Bx, cx, us, hqx, hfx, hul, huone, hurep⟩ := repd_flat (P := X.P) hrx
  have hexec : ∀ (v : Value) (w' : World), (Builtin.append_ #[st, xt] ty #[.slice A xs.length xs.length, a.eval y]).run X.P w = .ok v w' → ((⟨d, .call { callee := .builtin .append, args := #[x, y], argTypes := #[st, xt] }, ty, pos, aft, g⟩ : Oper).semAt X.ro a.eval).run X.P w = .ok (.value v) w' := fun v w' h => by
    rw [semAt_of (by simp)]
    simp only [execOp, resolve, invoke, builtin, List.map_toArray, List.map_cons, List.map_nil, Sem.run_bind, Sem.run_pure, Result.andThen_ok, hq, h]
  by_cases hroom : xs.length + ys.length ≤ xs.length
  · have hy0 : ys = [] := List.length_eq_zero_iff.1 (by omega)
    have hx0 : xs = [] := by rcases hne with h | h; exact absurd hy0 h; exact h
    subst hx0; subst hy0
    have hrun := append_room (P := X.P) (w := w) (ty := ty) (A := A) (n := 0) (c := 0) hu hxu hz hfv.ln (hfv.fc w rfl) (Nat.le_refl _)
    have hv0 : vs = [] := List.length_eq_zero_iff.1 (by rw [hfv.vl]; simp)
    subst hv0
    have hrun' : (Builtin.append_ #[st, xt] ty #[.slice A ([] : List (List D)).length ([] : List (List D)).length, a.eval y]).run X.P w = .ok (.slice A 0 0) w := by
      simp only [List.length_nil] at hrun ⊢
      rw [hrun]; cases A <;> simp [storeCells]
    refine ⟨_, 0, w, hexec _ _ hrun', mem_arr0 sm.hok γ i k, ?_⟩
    have := Rep.arr (γ := upd γ i ⟨w.heap.size, 0, fun _ => False⟩) (H := H) i k 0 A
    rw [upd_same] at this
    exact this (Nat.zero_le _) (fun h => by simp at h)
  · have hus : ∀ w' : World, w'.heap = w.heap → (Builtin.firstCells k xs.length (.slice A xs.length xs.length)).run X.P w' = .ok us.toArray w' := fun w' hw' => by
      rw [← hq]
      exact hfx w' fun b o v h => by
        have := sm.hok.c b o v h
        simp only [World.cell?, hw'] at this ⊢; exact this
    obtain ⟨cap, hcap, hrun⟩ := append_grow (P := X.P) (w := w) (ty := ty) (A := A) (n := xs.length) (c := xs.length) (us := us) (vs := vs) hu hxu hz hzv hb hfv.ln hfv.fc hus (by omega) hbytes hb0
    have hzc : (Builtin.zeroCells z.cells (cap - (xs.length + ys.length))).toList.length = (cap - (xs.length + ys.length)) * k := by
      simp [Builtin.zeroCells, hzl]
    have hm0 := sm.drew.new i (.arr k (xs ++ ys)) (.cells (us ++ vs ++ (Builtin.zeroCells z.cells (cap - (xs.length + ys.length))).toList).toArray el) cap
      ⟨by rw [upd_same, List.length_append]; exact hcap, fun cs hcs => by rcases List.mem_append.1 hcs with h | h; exact hxk cs h; exact hfv.yk cs h, fun _ => by
        rw [upd_same]
        refine ⟨el, _, World.alloc_heap_new _ _, ?_, ?_⟩
        · rw [List.length_append, List.length_append, hzc, hul, hfv.vl, ← Nat.add_mul, ← Nat.add_mul]
          congr 1
          show xs.length + ys.length + (cap - (xs.length + ys.length)) = cap
          omega
        · have hvl := hfv.vl
          refine arr_snoc hxk hfv.yk hurep hfv.rp (fun p hp => ?_) (fun p hp => ?_)
          · rw [List.append_assoc, List.getElem?_append_left (by omega)]
          · rw [List.append_assoc, List.getElem?_append_right (by omega), hul, show xs.length * k + p - xs.length * k = p from by omega, List.getElem?_append_left (by omega)]⟩ (fun _ _ h => by cases h)
    have hm' : Mem w H (fun _ => False) (upd γ i ⟨w.heap.size, cap, fun _ => False⟩) H [(i, .arr k (xs ++ ys))] (w.drew.alloc (.cells (us ++ vs ++ (Builtin.zeroCells z.cells (cap - (xs.length + ys.length))).toList).toArray el)) :=
      ⟨⟨hm0.keep.os, hm0.keep.tape, hm0.keep.output, hm0.keep.size, hm0.keep.block⟩, hm0.hle, ⟨hm0.hnew.c, hm0.hnew.m⟩, hm0.hok, hm0.ent, hm0.free, hm0.fresh, hm0.apart⟩
    refine ⟨_, cap, _, hexec _ _ hrun, hm', ?_⟩
    have := Rep.arr (γ := upd γ i ⟨w.heap.size, cap, fun _ => False⟩) (H := H) i k (xs.length + ys.length) (some ⟨w.heap.size, 0, none⟩)
    rw [upd_same] at this
    exact this hcap (fun _ => rfl)
theorem B.appF {i : Nat} {x y : Operand} {st xt : TypeId} {k : Nat} {xs ys : List (List D)} {av0 : AV} (hx : ge t x = some av0) (hfu : FullIs av0 k xs) (hy : FlatQ X t σ y k ys) (hI : elInfo X.P st xt = some k) (hb : xs.length + ys.length ≤ 1000000000) (hne : ys ≠ [] ∨ xs = []) :
    BirthJ X ⟨d, .call { callee := .builtin .append, args := #[x, y], argTypes := #[st, xt] }, ty, pos, aft, g⟩ t σ i (.arr i k (xs.length + ys.length)) (.arr k (xs ++ ys)) := by
  obtain ⟨el, z, bytes, h1, h2, h3, h4, h5, h6, h7, h8⟩ := elInfo_out hI
  exact B.appendF hx hfu hy h1 h2 h3 h4 h5 h6 h7 (bytes_fit hb h8) hne
end birth
end Go.Gv
end
section
open Go Go.Gv
attribute [local irreducible] Go.Gv.WJ Go.Gv.OpJ Go.Gv.QJ Go.Gv.Spl Go.Gv.Req Go.Gv.IdxP Go.Gv.RegP Go.Gv.FinP Go.Gv.CellP Go.Gv.CellsP Go.Gv.ArrP Go.Gv.ArrsP Go.Gv.DropP Go.Gv.ByteP Go.Gv.StoreP
set_option maxRecDepth 100000
namespace Go.Proofs.E
theorem insO_at (o : OP) : ∀ ks : List OP, insO o ks = ks.take (pos1 o ks) ++ o :: ks.drop (pos1 o ks)
  | [] => rfl
  | k :: r => by
    rw [insO, pos1]
    split
    · rw [List.take_succ_cons, List.drop_succ_cons, insO_at o r]; rfl
    · rfl
theorem kids_take {l : List OP} {i : Nat} {x : OP} (h : l[i]? = some x) (a : ID) : kids (insL (l.take (i + 1))) a = if x.k = 0 ∧ x.a = a then insO x (kids (insL (l.take i)) a) else kids (insL (l.take i)) a := by
  rw [take_snoc h]
  by_cases hk : x.k = 0
  · rw [insL_snoc0 hk, kids_snoc]
    by_cases ha : x.a = a
    · rw [if_pos ha, if_pos ⟨hk, ha⟩]
    · rw [if_neg ha, if_neg (fun e => ha e.2)]
  · rw [insL_snoc1 hk, if_neg (fun e => hk e.1)]
theorem kidsO_len (I : List OP) (a : ID) : (kids I a).length ≤ I.length := by
  have : ∀ (J ks : List OP), (kidsL a J ks).length ≤ J.length + ks.length := fun J => by
    induction J with
    | nil => intro ks; simp [kidsL]
    | cons o J ih =>
      intro ks
      rw [kidsL, List.length_cons]
      have hins : ∀ ks : List OP, (insO o ks).length = ks.length + 1 := fun ks => by
        rw [insO_at, List.length_append, List.length_cons, List.length_take, List.length_drop]
        have := pos1_le o ks; omega
      split
      · have := ih (insO o ks); rw [hins] at this; omega
      · have := ih ks; omega
  unfold kids; simpa using this I []
theorem ins_row (x : OP) (ks : List OP) (m : Nat) (h : m = pos1 x ks) : (ks.map opD).take m ++ ([opD x] ++ ((ks.map opD).drop ((m : Int).toNat)).take (ks.length - ((m : Int).toNat))) = (insO x ks).map opD := by
  rw [insO_at, ← h, Int.toNat_natCast, List.map_append, List.map_cons, List.map_take, List.map_drop, List.take_of_length_le (l := List.drop m _) (by rw [List.length_drop, List.length_map]; exact Nat.le_refl _)]; rfl
theorem ins_len (x : OP) (ks : List OP) (m : Nat) (hm : m ≤ ks.length) (h : m = pos1 x ks) : ((m : Int).toNat) + ([opD x] ++ ((ks.map opD).drop ((m : Int).toNat)).take (ks.length - ((m : Int).toNat))).length = (insO x ks).length := by
  have h2 := congrArg List.length (ins_row x ks m h)
  rw [List.length_append, List.length_map, List.length_take, List.length_map] at h2
  rw [← h2, Int.toNat_natCast]; omega
theorem flat_take (F : ID → List OP) (ks : List OP) (j : Nat) {k : OP} (h : ks[j]? = some k) : (ks.take (j + 1)).flatMap (fun k => k :: F k.i) = (ks.take j).flatMap (fun k => k :: F k.i) ++ (k :: F k.i) := by
  rw [take_snoc h, List.flatMap_append]; simp
theorem flat_take_le (F : ID → List OP) (ks : List OP) (j : Nat) : ((ks.take j).flatMap (fun k => k :: F k.i)).length ≤ (ks.flatMap (fun k => k :: F k.i)).length := by
  have := congrArg (fun l : List OP => (l.flatMap (fun k => k :: F k.i)).length) (List.take_append_drop j ks)
  simp only [List.flatMap_append, List.length_append] at this
  omega
theorem row_appE (f : OP → EL) (A : List OP) (k : OP) (B : List OP) : ((A.map f).map elD ++ [elD (f k)]) ++ (B.map f).map elD = ((A ++ (k :: B)).map f).map elD := by simp
theorem row_appL (f : OP → EL) (A : List OP) (k : OP) (B : List OP) : ((A.map f).length + 1) + ((B.map f).map elD).length = ((A ++ (k :: B)).map f).length := by simp; omega
theorem follow_step (l : List OP) (hl : l.length ≤ 1000000) (a : ID) (F : ID → List OP) (hF : ((kids (insL l) a).flatMap fun k => k :: F k.i).length ≤ 1000000)
    (ih : ∀ k, k ∈ kids (insL l) a → Cv 115 [.d (.sl 6 (l.map opD)), idv k.i] (.d (.sl 4 (((F k.i).map (elO l)).map elD)))) :
    Cv 115 [.d (.sl 6 (l.map opD)), idv a] (.d (.sl 4 ((((kids (insL l) a).flatMap fun k => k :: F k.i).map (elO l)).map elD))) := by
  refine Ct.of_wv Tryz.f115 Tryz.func115 rfl rfl fun w H B g0 => ?_
  try refine WJ.cut ?_
  (first | refine Sq.go ?_ | refine vL_nil (Sq.go ?_) | skip)
  try refine WJ.cut ?_
  (first | refine Sq.go ?_ | refine vL_nil (Sq.go ?_) | skip)
  try refine WJ.cut ?_
  refine WJ.shift (SJ.nilArr 1000 5 6 rfl rfl) ?_
  refine WJ.loopK (V := Nat) (fun i => [(6, iv i), (5, .arr 1000 6 (kids (insL (l.take i)) a).length)]) (fun i => [(1000, .arr 6 ((kids (insL (l.take i)) a).map opD))]) [1000] (fun i => l.length - i) (fun i => i ≤ l.length) 0 (by omega) (by repeat' (first | exact trivial | exact rfl | refine And.intro ?_ ?_)) (by repeat' (first | exact trivial | exact rfl | refine And.intro ?_ ?_)) ?_
  intro i hi
  have hkl := kidsO_len (insL (l.take i)) a
  have hil := insL_le (l.take i)
  have htl := List.length_take (i := i) (l := l)
  refine Spl.of (fun h1 => ?_) (fun h1 => ?_)
  · have hlt : i < l.length := by have := of_decide_eq_true h1; simp at this; omega
    have hx : l[i]? = some l[i] := by simp
    have hk := kids_take hx a
    generalize l[i] = x at hx hk
    generalize kids (insL (l.take i)) a = ks at hk hkl
    (repeat (first | refine Spl.t rfl ?_ | refine Spl.f rfl ?_))
    refine RegP.of rfl (by decide +kernel) ?_
    refine IdxP.of (opD x) (by omega) (by simp [hx]) ?_
    refine Spl.of (fun h2 => ?_) (fun h2 => ?_)
    · have h2 : x.k ≠ 0 := by simpa using h2
      rw [if_neg (fun e => h2 e.1)] at hk
      (repeat (first | refine Spl.t rfl ?_ | refine Spl.f rfl ?_))
      exact ⟨i + 1, by omega, by omega, ⟨some_iv (wrap_id _ (by omega) (by omega)), some_arr (by rw [hk]), trivial⟩, (by repeat' (first | exact trivial | exact rfl | refine And.intro ?_ ?_)), ⟨some_ear (by rw [hk]), trivial⟩, (by repeat' (first | exact trivial | exact rfl | refine And.intro ?_ ?_))⟩
    · have h2 : x.k = 0 := by simpa using h2
      (repeat (first | refine Spl.t rfl ?_ | refine Spl.f rfl ?_))
      refine IdxP.of (opD x) (by omega) (by simp [hx]) ?_
      (repeat (first | refine Spl.t rfl ?_ | refine Spl.f rfl ?_))
      refine QuietP.of (O.neT 3 rfl rfl rfl rfl rfl eqR_ok eqR_g (eqR x.a a)) ?_
      (repeat (first | refine Spl.t rfl ?_ | refine Spl.f rfl ?_))
      refine Spl.of (fun h3 => ?_) (fun h3 => ?_)
      · have h3 : x.a ≠ a := by simpa using h3
        rw [if_neg (fun e => h3 e.2)] at hk
        (repeat (first | refine Spl.t rfl ?_ | refine Spl.f rfl ?_))
        exact ⟨i + 1, by omega, by omega, ⟨some_iv (wrap_id _ (by omega) (by omega)), some_arr (by rw [hk]), trivial⟩, (by repeat' (first | exact trivial | exact rfl | refine And.intro ?_ ?_)), ⟨some_ear (by rw [hk]), trivial⟩, (by repeat' (first | exact trivial | exact rfl | refine And.intro ?_ ?_))⟩
      · have h3 : x.a = a := by simpa using h3
        rw [if_pos ⟨h2, h3⟩] at hk
        have hp1 := pos1_le x ks
        (repeat (first | refine Spl.t rfl ?_ | refine Spl.f rfl ?_))
        refine WJ.loopK (V := Nat) (fun m => [(7, iv m)]) (fun _ => []) [] (fun m => ks.length - m) (fun m => m ≤ ks.length ∧ m + pos1 x (ks.drop m) = pos1 x ks) 0 ⟨by omega, by simp⟩ (by repeat' (first | exact trivial | exact rfl | refine And.intro ?_ ?_)) (by repeat' (first | exact trivial | exact rfl | refine And.intro ?_ ?_)) ?_
        have hsz : ∀ m : Nat, [opD x].length + (((ks.map opD).drop ((m : Int).toNat)).take (ks.length - ((m : Int).toNat))).length ≤ 1000000000 := fun m => by
          rw [List.length_take, List.length_drop, List.length_map]; simp only [List.length_singleton]; omega
        rintro m ⟨hm, hmp⟩
        refine RegP.of rfl (by decide +kernel) ?_
        refine Spl.of (fun h4 => ?_) (fun h4 => ?_)
        · have h4 : m < ks.length := by have := of_decide_eq_true h4; omega
          have hy : ks[m]? = some ks[m] := by simp
          (repeat (first | refine Spl.t rfl ?_ | refine Spl.f rfl ?_))
          refine IdxP.of (opD x) (by omega) (by simp [hx]) ?_
          (repeat (first | refine Spl.t rfl ?_ | refine Spl.f rfl ?_))
          refine Req.of ⟨by omega, by omega⟩ ?_
          (repeat (first | refine Spl.t rfl ?_ | refine Spl.f rfl ?_))
          refine ArrsP.of m 1 (opD ks[m]) [.v (.int .i64 ks[m].i.c), .v (.int .i64 ks[m].i.s)] rfl (by simp [hy]) (show 1 + 2 ≤ 6 by decide) rfl ?_
          (repeat (first | refine Spl.t rfl ?_ | refine Spl.f rfl ?_))
          refine QuietP.of (QJ.call (RLess_c x.i ks[m].i) (fun _ _ => rfl) rfl rfl) ?_
          rw [List.drop_eq_getElem_cons h4, pos1] at hmp
          refine Spl.of (fun h5 => ?_) (fun h5 => ?_)
          · rw [if_pos h5] at hmp
            (repeat (first | refine Spl.t rfl ?_ | refine Spl.f rfl ?_))
            exact ⟨m + 1, ⟨by omega, by omega⟩, by omega, ⟨some_iv (wrap_id _ (by omega) (by omega)), trivial⟩, (by repeat' (first | exact trivial | exact rfl | refine And.intro ?_ ?_)), (by repeat' (first | exact trivial | exact rfl | refine And.intro ?_ ?_)), (by repeat' (first | exact trivial | exact rfl | refine And.intro ?_ ?_))⟩
          · rw [if_neg (by rw [h5]; decide)] at hmp
            (repeat (first | refine Spl.t rfl ?_ | refine Spl.f rfl ?_))
            have hmeq : m = pos1 x ks := by omega
            have hsz := hsz m
            (refine RegP.mix 12 rfl (by decide +kernel) ?_; refine QuietP.of (O.cutPre rfl rfl rfl rfl (by omega) (by omega)) ?_; refine IdxP.of (opD x) (by omega) (by simp [hx]) ?_; refine QuietP.of (O.cutSuf rfl rfl rfl rfl (by omega) (by omega)) ?_; refine QuietP.of (QJ.appG rfl (.full _ _) (FlatQ.suf rfl rfl (by rw [List.length_map]; omega)) rfl hsz) ?_; (repeat' (refine And.intro ?_ ?_)); refine OpJ.shift (SJ.sufArr 52 rfl) (OpJ.shift (SJ.cutA 1000 m rfl) (eff_sound ?_)); refine Req.of ⟨?_, ?_⟩ ?_; (rw [List.length_take, List.length_map]; omega); (rw [List.length_append, List.length_take, List.length_drop, List.length_map]; show _ + (1 + _) ≤ _; omega); (repeat' (refine And.intro ?_ ?_)); exact ⟨i + 1, by omega, by omega, ⟨some_iv (wrap_id _ (by omega) (by omega)), some_arr (by rw [hk]; exact ins_len x ks m hm hmeq), trivial⟩, (by repeat' (first | exact trivial | exact rfl | refine And.intro ?_ ?_)), ⟨some_ear (by rw [hk]; exact ins_row x ks m hmeq), trivial⟩, (by repeat' (first | exact trivial | exact rfl | refine And.intro ?_ ?_))⟩)
        · have h4 : ¬ m < ks.length := by have := of_decide_eq_false h4; omega
          rw [List.drop_eq_nil_of_le (by omega), pos1] at hmp
          have hmeq : m = pos1 x ks := by omega
          have hsz := hsz m
          (repeat (first | refine Spl.t rfl ?_ | refine Spl.f rfl ?_))
          (refine RegP.mix 12 rfl (by decide +kernel) ?_; refine QuietP.of (O.cutPre rfl rfl rfl rfl (by omega) (by omega)) ?_; refine IdxP.of (opD x) (by omega) (by simp [hx]) ?_; refine QuietP.of (O.cutSuf rfl rfl rfl rfl (by omega) (by omega)) ?_; refine QuietP.of (QJ.appG rfl (.full _ _) (FlatQ.suf rfl rfl (by rw [List.length_map]; omega)) rfl hsz) ?_; (repeat' (refine And.intro ?_ ?_)); refine OpJ.shift (SJ.sufArr 52 rfl) (OpJ.shift (SJ.cutA 1000 m rfl) (eff_sound ?_)); refine Req.of ⟨?_, ?_⟩ ?_; (rw [List.length_take, List.length_map]; omega); (rw [List.length_append, List.length_take, List.length_drop, List.length_map]; show _ + (1 + _) ≤ _; omega); (repeat' (refine And.intro ?_ ?_)); exact ⟨i + 1, by omega, by omega, ⟨some_iv (wrap_id _ (by omega) (by omega)), some_arr (by rw [hk]; exact ins_len x ks m hm hmeq), trivial⟩, (by repeat' (first | exact trivial | exact rfl | refine And.intro ?_ ?_)), ⟨some_ear (by rw [hk]; exact ins_row x ks m hmeq), trivial⟩, (by repeat' (first | exact trivial | exact rfl | refine And.intro ?_ ?_))⟩)
  · have h1 := of_decide_eq_false h1
    simp at h1
    have hall : l.take i = l := List.take_of_length_le (by omega)
    rw [hall] at hkl
    rw [hall]
    generalize kids (insL l) a = ks at hF ih hkl
    have hll := insL_le l
    (repeat (first | refine Spl.t rfl ?_ | refine Spl.f rfl ?_))
    (first | refine Sq.go ?_ | refine vL_nil (Sq.go ?_) | skip)
    try refine WJ.cut ?_
    (first | refine Sq.go ?_ | refine vL_nil (Sq.go ?_) | skip)
    try refine WJ.cut ?_
    refine WJ.shift (SJ.nilArr 1001 8 4 rfl rfl) ?_
    refine WJ.loopK (V := Nat) (fun j => [(9, iv j), (8, .arr 1001 4 (((ks.take j).flatMap fun k => k :: F k.i).map (elO l)).length)]) (fun j => [(1001, .arr 4 ((((ks.take j).flatMap fun k => k :: F k.i).map (elO l)).map elD))]) [1001] (fun j => ks.length - j) (fun j => j ≤ ks.length) 0 (by omega) (by repeat' (first | exact trivial | exact rfl | refine And.intro ?_ ?_)) (by repeat' (first | exact trivial | exact rfl | refine And.intro ?_ ?_)) ?_
    intro j hj
    have hle := flat_take_le F ks j
    have htj := flat_take_le F ks (j + 1)
    refine Spl.of (fun h2 => ?_) (fun h2 => ?_)
    · have hlt : j < ks.length := by have := of_decide_eq_true h2; omega
      have hx : ks[j]? = some ks[j] := by simp
      have hih := ih ks[j] (List.getElem_mem hlt)
      have hsn := flat_take F ks j hx
      generalize ks[j] = k at hx hih hsn
      rw [hsn, List.length_append, List.length_cons] at htj
      have hdead : decide (hasIx 1 k.i l ≥ 0) = deadO l k.i := by
        unfold deadO
        rcases hasIx_is 1 k.i l with ⟨e1, e2⟩ | ⟨n, x, e1, _, e2⟩
        · rw [e1, e2]; rfl
        · rw [e1, e2, decide_eq_true (by omega)]; rfl
      (repeat (first | refine Spl.t rfl ?_ | refine Spl.f rfl ?_))
      refine RegP.mix 21 rfl (by decide +kernel) ?_
      refine Req.of ⟨by omega, by omega⟩ ?_
      (repeat (first | refine Spl.t rfl ?_ | refine Spl.f rfl ?_))
      refine ArrsP.of j 1 (opD k) [.v (.int .i64 k.i.c), .v (.int .i64 k.i.s)] rfl (by simp [hx]) (show 1 + 2 ≤ 6 by decide) rfl ?_
      (repeat (first | refine Spl.t rfl ?_ | refine Spl.f rfl ?_))
      refine Req.of ⟨by omega, by omega⟩ ?_
      (repeat (first | refine Spl.t rfl ?_ | refine Spl.f rfl ?_))
      refine ArrP.of j 5 (opD k) (.v (.int .i32 k.ch)) rfl (by simp [hx]) rfl ?_
      (repeat (first | refine Spl.t rfl ?_ | refine Spl.f rfl ?_))
      refine Req.of ⟨by omega, by omega⟩ ?_
      (repeat (first | refine Spl.t rfl ?_ | refine Spl.f rfl ?_))
      refine ArrsP.of j 1 (opD k) [.v (.int .i64 k.i.c), .v (.int .i64 k.i.s)] rfl (by simp [hx]) (show 1 + 2 ≤ 6 by decide) rfl ?_
      (repeat (first | refine Spl.t rfl ?_ | refine Spl.f rfl ?_))
      refine QuietP.of (QJ.call (RHas_c l 1 k.i hl) (fun _ _ => rfl) rfl rfl) ?_
      (repeat' (refine And.intro ?_ ?_))
      refine Req.of ⟨by simp, ?_⟩ ?_
      · show _ + 1 ≤ 1000000000
        rw [List.length_map]; omega
      (repeat' (refine And.intro ?_ ?_))
      (repeat (first | refine Spl.t rfl ?_ | refine Spl.f rfl ?_))
      refine Req.of ⟨by omega, by omega⟩ ?_
      (repeat (first | refine Spl.t rfl ?_ | refine Spl.f rfl ?_))
      refine ArrsP.of j 1 (opD k) [.v (.int .i64 k.i.c), .v (.int .i64 k.i.s)] rfl (by simp [hx]) (show 1 + 2 ≤ 6 by decide) rfl ?_
      (repeat (first | refine Spl.t rfl ?_ | refine Spl.f rfl ?_))
      refine OpJ.callV hih (fun _ _ => rfl) rfl rfl rfl ?_
      refine Req.of ⟨by simp; try rfl, ?_⟩ ?_
      · rw [List.length_map, List.length_map, List.length_map]
        show _ + 1 + _ ≤ 1000000000
        omega
      refine ⟨j + 1, by omega, by omega, ⟨some_iv (wrap_id _ (by omega) (by omega)), some_arr ?_, trivial⟩, (by repeat' (first | exact trivial | exact rfl | refine And.intro ?_ ?_)), ⟨some_ear ?_, trivial⟩, (by repeat' (first | exact trivial | exact rfl | refine And.intro ?_ ?_))⟩
      · rw [hsn]; exact row_appL (elO l) _ k _
      · rw [hsn, hdead]; exact row_appE (elO l) _ k _
    · have h2 := of_decide_eq_false h2
      have hall2 : ks.take j = ks := List.take_of_length_le (by omega)
      rw [hall2]
      (repeat (first | refine Spl.t rfl ?_ | refine Spl.f rfl ?_))
      (first | refine Sq.go ?_ | refine vL_nil (Sq.go ?_) | skip)
      try refine vc_sound _ _ _ _ ?_
      refine FinP.pubA 1001 rfl (by simp) (by rw [List.length_map]; omega) (FinP.open rfl ?_)
      rw [List.take_of_length_le (by simp)]
end Go.Proofs.E
end
section
open Go Go.Gv
attribute [local irreducible] Go.Gv.WJ Go.Gv.OpJ Go.Gv.QJ Go.Gv.Spl Go.Gv.Req Go.Gv.IdxP Go.Gv.RegP Go.Gv.FinP Go.Gv.CellP Go.Gv.CellsP Go.Gv.ArrP Go.Gv.ArrsP Go.Gv.DropP Go.Gv.ByteP Go.Gv.StoreP
set_option maxRecDepth 100000
namespace Go.Proofs.E
attribute [local irreducible] elems
end Go.Proofs.E
end
section
open Go Go.Gv
attribute [local irreducible] Go.Gv.WJ Go.Gv.OpJ Go.Gv.QJ Go.Gv.Spl Go.Gv.Req Go.Gv.IdxP Go.Gv.RegP Go.Gv.FinP Go.Gv.CellP Go.Gv.CellsP Go.Gv.ArrP Go.Gv.ArrsP Go.Gv.DropP Go.Gv.ByteP Go.Gv.StoreP
set_option maxRecDepth 100000
namespace Go.Proofs.E
attribute [local irreducible] elems
theorem fol_sub {I : List OP} {n : Nat} {a : ID} {k : OP} (hk : k ∈ kids I a) : (fol n I k.i).length ≤ (fol (n + 1) I a).length := by
  rw [fol]
  have : ∀ ks : List OP, k ∈ ks → (fol n I k.i).length ≤ (ks.flatMap fun k => k :: fol n I k.i).length := fun ks => by
    induction ks with
    | nil => intro h; simp at h
    | cons x r ih =>
      intro h
      rw [List.flatMap_cons, List.length_append, List.length_cons]
      rcases List.mem_cons.1 h with rfl | h
      · omega
      · have := ih h; omega
  exact this _ hk
theorem follow_c {l : List OP} (hd : Dn l) (hl : l.length ≤ 1000000) : ∀ (n : Nat) (a : ID), 1048576 < (n : Int) + a.c → (fol n (insL l) a).length ≤ 1000000 →
    Cv 115 [.d (.sl 6 (l.map opD)), idv a] (.d (.sl 4 (((fol n (insL l) a).map (elO l)).map elD)))
  | 0, a, hn, _ => by
    have hk : kids (insL l) a = [] := List.eq_nil_iff_forall_not_mem.2 fun k hk => by
      obtain ⟨h1, h2⟩ := mem_kids.1 hk
      have := hd.is.tk.is.ok.cl k h1
      rw [h2] at this; omega
    have := follow_step l hl a (fun _ => []) (by rw [hk]; simp) (fun k hk' => by rw [hk] at hk'; simp at hk')
    rw [hk] at this
    exact this
  | n + 1, a, hn, hlen => by
    rw [fol] at hlen ⊢
    refine follow_step l hl a (fun i => fol n (insL l) i) hlen fun k hk => ?_
    obtain ⟨h1, h2⟩ := mem_kids.1 hk
    have := hd.is.tk.is.ok.cl k h1
    rw [h2] at this
    exact follow_c hd hl n k.i (by omega) (Nat.le_trans (fol_sub hk) (by rw [fol]; exact hlen))
theorem List_c {l : List OP} (hd : Dn l) (hl : l.length ≤ 1000000) : Cv 72 [.d (.sl 6 (l.map opD))] (.d (.sl 4 ((rowE l).map elD))) := by
  have hi := insL_le l
  have hf := follow_c hd hl 1048577 ⟨0, 0⟩ (by decide) (by rw [show (fol 1048577 (insL l) ⟨0, 0⟩) = folR (insL l) from rfl, hd.is.tk.is.len]; omega)
  refine Ct.of_vc Tryz.f72 Tryz.func72 rfl rfl fun w H B g0 => ?_
  refine OpJ.callV hf (fun _ _ => rfl) rfl rfl rfl ?_
  (repeat (first | refine Spl.t rfl ?_ | refine Spl.f rfl ?_))
  exact FinP.open rfl rfl
end Go.Proofs.E
end
section
open Go Go.Gv
attribute [local irreducible] Go.Gv.WJ Go.Gv.OpJ Go.Gv.QJ Go.Gv.Spl Go.Gv.Req Go.Gv.IdxP Go.Gv.RegP Go.Gv.FinP Go.Gv.CellP Go.Gv.CellsP Go.Gv.ArrP Go.Gv.ArrsP Go.Gv.DropP Go.Gv.ByteP Go.Gv.StoreP
set_option maxRecDepth 100000
namespace Go.Proofs.E
attribute [local irreducible] elems
end Go.Proofs.E
end
section
open Go Go.Gv
attribute [local irreducible] Go.Gv.WJ Go.Gv.OpJ Go.Gv.QJ Go.Gv.Spl Go.Gv.Req Go.Gv.IdxP Go.Gv.RegP Go.Gv.FinP Go.Gv.CellP Go.Gv.CellsP Go.Gv.ArrP Go.Gv.ArrsP Go.Gv.DropP Go.Gv.ByteP Go.Gv.StoreP
set_option maxRecDepth 100000
namespace Go.Proofs.E
attribute [local irreducible] elems
abbrev rmv (R : List OP) : AV := .agg [.d (.sl 6 (R.map opD))]
def dupR (R : List OP) (o : OP) : Bool := R.any fun x => decide (x = o)
def clashR (R : List OP) (o : OP) : Bool := R.any fun x => decide (x.k = 0 ∧ o.k = 0 ∧ x.i = o.i)
def addE (R : List OP) (o : OP) : Int := if checkO o ≠ 0 then checkO o else if dupR R o = true then 4 else if clashR R o = true then 5 else if 16 ≤ R.length then 7 else 0
def addR (R : List OP) (o : OP) : List OP := if addE R o = 0 then R ++ [o] else R
def nextIx (l : List OP) : List OP → Int
  | [] => -1
  | o :: r => if wrongO l o ≠ 6 then 0 else (if nextIx l r < 0 then -1 else nextIx l r + 1)
def OP0 : OP := ⟨0, ⟨0, 0⟩, ⟨0, 0⟩, 0⟩
def nextR (l R : List OP) : List OP := if nextIx l R < 0 then R else R.take (nextIx l R).toNat ++ R.drop ((nextIx l R).toNat + 1)
def nextO (l R : List OP) : OP := if nextIx l R < 0 then OP0 else R.getD (nextIx l R).toNat OP0
def topR (R : List OP) : Int := R.foldl (fun n o => if o.i.c > n then o.i.c else n) 0
theorem RLen_c (R : List OP) : Cv 93 [rmv R] (iv R.length) := by
  refine Ct.of_vc Tryz.f93 Tryz.func93 rfl rfl fun w H B g0 => ?_
  refine FinP.open rfl (congrArg iv ?_)
  rw [List.length_map]
theorem Clone5_c (R : List OP) (hR : R.length ≤ 1000000) : Cv 156 [.d (.sl 6 (R.map opD))] (.d (.sl 6 (R.map opD))) := by
  refine Ct.of_vc Tryz.f156 Tryz.func156 rfl rfl fun w H B g0 => ?_
  refine O.eqNil rfl rfl rfl rfl fun b hb => ?_
  cases b with
  | true =>
    have h0 := hb rfl
    (repeat (first | refine Spl.t rfl ?_ | refine Spl.f rfl ?_))
    rw [h0]
    exact FinP.view (fun _ _ _ h => nil_sl 6 h) (FinP.open rfl rfl)
  | false =>
    (repeat (first | refine Spl.t rfl ?_ | refine Spl.f rfl ?_))
    refine OpJ.qu (QJ.appG rfl (.full _ _) (FlatQ.data rfl rfl) rfl (by show 0 + _ ≤ _; rw [List.length_map]; omega)) rfl ?_
    exact FinP.open rfl rfl
theorem RAll_c (R : List OP) (hR : R.length ≤ 1000000) : Cv 130 [rmv R] (.d (.sl 6 (R.map opD))) := by
  refine Ct.of_vc Tryz.f130 Tryz.func130 rfl rfl fun w H B g0 => ?_
  refine OpJ.callV (Clone5_c R hR) (fun _ _ => rfl) rfl rfl rfl ?_
  exact FinP.open rfl rfl
theorem top_snoc (R : List OP) (o : OP) : topR (R ++ [o]) = if o.i.c > topR R then o.i.c else topR R := by unfold topR; rw [List.foldl_append]; rfl
theorem Top_c (R : List OP) (hR : R.length ≤ 1000000) : Cv 94 [rmv R] (iv (topR R)) := by
  refine Ct.of_vc Tryz.f94 Tryz.func94 rfl rfl fun w H B g0 => ?_
  refine WJ.loopK (V := Nat) (fun i => [(9, iv i), (3, iv (topR (R.take i)))]) (fun _ => []) [] (fun i => R.length - i) (fun i => i ≤ R.length) 0 (by omega) (by repeat' (first | exact trivial | exact rfl | refine And.intro ?_ ?_)) (by repeat' (first | exact trivial | exact rfl | refine And.intro ?_ ?_)) ?_
  intro i hi
  refine Spl.of (fun h1 => ?_) (fun h1 => ?_)
  · have hlt : i < R.length := by have := of_decide_eq_true h1; simp at this; omega
    have hx : R[i]? = some R[i] := by simp
    have hsn := take_snoc hx
    have htp := top_snoc (R.take i) R[i]
    rw [← hsn] at htp
    (repeat (first | refine Spl.t rfl ?_ | refine Spl.f rfl ?_))
    refine IdxP.of (opD R[i]) (by omega) (by simp [hx]) ?_
    exact ⟨i + 1, by omega, by omega, ⟨some_iv (wrap_id _ (by omega) (by omega)), some_iv htp.symm, trivial⟩, (by repeat' (first | exact trivial | exact rfl | refine And.intro ?_ ?_)), (by repeat' (first | exact trivial | exact rfl | refine And.intro ?_ ?_)), (by repeat' (first | exact trivial | exact rfl | refine And.intro ?_ ?_))⟩
  · have h1 := of_decide_eq_false h1
    simp at h1
    (repeat (first | refine Spl.t rfl ?_ | refine Spl.f rfl ?_))
    exact FinP.open rfl (congrArg iv (by rw [List.take_of_length_le (by omega)]))
theorem RTop_c (R : List OP) (hR : R.length ≤ 1000000) : Cv 153 [.d (.sl 6 (R.map opD))] (iv (topR R)) := by
  refine Ct.of_vc Tryz.f153 Tryz.func153 rfl rfl fun w H B g0 => ?_
  refine WJ.loopK (V := Nat) (fun i => [(4, iv i), (3, iv (topR (R.take i)))]) (fun _ => []) [] (fun i => R.length - i) (fun i => i ≤ R.length) 0 (by omega) (by repeat' (first | exact trivial | exact rfl | refine And.intro ?_ ?_)) (by repeat' (first | exact trivial | exact rfl | refine And.intro ?_ ?_)) ?_
  intro i hi
  refine Spl.of (fun h1 => ?_) (fun h1 => ?_)
  · have hlt : i < R.length := by have := of_decide_eq_true h1; simp at this; omega
    have hx : R[i]? = some R[i] := by simp
    have hsn := take_snoc hx
    have htp := top_snoc (R.take i) R[i]
    rw [← hsn] at htp
    (repeat (first | refine Spl.t rfl ?_ | refine Spl.f rfl ?_))
    refine IdxP.of (opD R[i]) (by omega) (by simp [hx]) ?_
    refine Spl.of (fun h2 => ?_) (fun h2 => ?_)
    · have h2 := of_decide_eq_true h2
      rw [if_pos h2] at htp
      (repeat (first | refine Spl.t rfl ?_ | refine Spl.f rfl ?_))
      refine IdxP.of (opD R[i]) (by omega) (by simp [hx]) ?_
      exact ⟨i + 1, by omega, by omega, ⟨some_iv (wrap_id _ (by omega) (by omega)), some_iv htp.symm, trivial⟩, (by repeat' (first | exact trivial | exact rfl | refine And.intro ?_ ?_)), (by repeat' (first | exact trivial | exact rfl | refine And.intro ?_ ?_)), (by repeat' (first | exact trivial | exact rfl | refine And.intro ?_ ?_))⟩
    · have h2 := of_decide_eq_false h2
      rw [if_neg h2] at htp
      (repeat (first | refine Spl.t rfl ?_ | refine Spl.f rfl ?_))
      exact ⟨i + 1, by omega, by omega, ⟨some_iv (wrap_id _ (by omega) (by omega)), some_iv htp.symm, trivial⟩, (by repeat' (first | exact trivial | exact rfl | refine And.intro ?_ ?_)), (by repeat' (first | exact trivial | exact rfl | refine And.intro ?_ ?_)), (by repeat' (first | exact trivial | exact rfl | refine And.intro ?_ ?_))⟩
  · have h1 := of_decide_eq_false h1
    simp at h1
    (repeat (first | refine Spl.t rfl ?_ | refine Spl.f rfl ?_))
    exact FinP.open rfl (congrArg iv (by rw [List.take_of_length_le (by omega)]))
theorem dup_snoc (R : List OP) (x o : OP) : dupR (R ++ [x]) o = (dupR R o || decide (x = o)) := by unfold dupR; rw [List.any_append]; simp
theorem clash_snoc (R : List OP) (x o : OP) : clashR (R ++ [x]) o = (clashR R o || decide (x.k = 0 ∧ o.k = 0 ∧ x.i = o.i)) := by unfold clashR; rw [List.any_append]; simp
theorem clash_take {R : List OP} {o : OP} {i : Nat} (h : clashR (R.take i) o = true) : clashR R o = true := by
  unfold clashR at h ⊢
  obtain ⟨x, hx, hd⟩ := List.any_eq_true.1 h
  exact List.any_eq_true.2 ⟨x, List.mem_of_mem_take hx, hd⟩
theorem dup_at {R : List OP} {o : OP} {i : Nat} (h : R[i]? = some o) : dupR R o = true := List.any_eq_true.2 ⟨o, List.mem_of_getElem? h, by simp⟩
theorem take_all6 (R : List OP) (o : OP) : List.drop (Int.toNat 0) (List.take ((R.map opD).length : Int).toNat (R.map opD)) ++ [opD o] = (R ++ [o]).map opD := by
  rw [Int.toNat_natCast, List.take_length, List.map_append]; rfl
theorem Add_c (R : List OP) (o : OP) (hR : R.length ≤ 1000000) : Cv 59 [rmv R, opv o] (.tup [rmv (addR R o), iv (addE R o)]) := by
  refine Ct.of_wv Tryz.f59 Tryz.func59 rfl rfl fun w H B g0 => ?_
  try refine WJ.cut ?_
  (first | refine Sq.go ?_ | refine vL_nil (Sq.go ?_) | skip)
  try refine WJ.cut ?_
  refine OpJ.callV (Check5_c o) (fun _ _ => rfl) rfl rfl rfl ?_
  (first | refine Sq.go ?_ | refine vL_nil (Sq.go ?_) | skip)
  try refine WJ.cut ?_
  refine Spl.of (fun h1 => ?_) (fun h1 => ?_)
  · have h1 : checkO o ≠ 0 := by simpa using h1
    have hE : addE R o = checkO o := by unfold addE; rw [if_pos h1]
    (repeat (first | refine Spl.t rfl ?_ | refine Spl.f rfl ?_))
    refine .out (by simp) ?_
    refine FinP.open rfl ?_
    unfold addR
    rw [hE, if_neg h1]; rfl
  have h1 : checkO o = 0 := by simpa using h1
  have hE : addE R o = if dupR R o = true then 4 else if clashR R o = true then 5 else if 16 ≤ R.length then 7 else 0 := by unfold addE; rw [if_neg (fun e => e h1)]
  (first | refine Sq.go ?_ | refine vL_nil (Sq.go ?_) | skip)
  try refine WJ.cut ?_
  (first | refine Sq.go ?_ | refine vL_nil (Sq.go ?_) | skip)
  try refine WJ.cut ?_
  refine WJ.loopK (V := Nat) (fun i => [(20, iv i), (7, bv (clashR (R.take i) o))]) (fun _ => []) [] (fun i => R.length - i) (fun i => i ≤ R.length ∧ dupR (R.take i) o = false) 0 ⟨by omega, rfl⟩ (by repeat' (first | exact trivial | exact rfl | refine And.intro ?_ ?_)) (by repeat' (first | exact trivial | exact rfl | refine And.intro ?_ ?_)) ?_
  rintro i ⟨hi, hdup⟩
  refine Spl.of (fun h2 => ?_) (fun h2 => ?_)
  · have hlt : i < R.length := by have := of_decide_eq_true h2; simp at this; omega
    have hx : R[i]? = some R[i] := by simp
    have hsn := take_snoc hx
    have hds := dup_snoc (R.take i) R[i] o
    have hcs := clash_snoc (R.take i) R[i] o
    rw [← hsn] at hds hcs
    generalize R[i] = x at hx hds hcs
    (repeat (first | refine Spl.t rfl ?_ | refine Spl.f rfl ?_))
    refine IdxP.of (opD x) (by omega) (by simp [hx]) ?_
    (repeat (first | refine Spl.t rfl ?_ | refine Spl.f rfl ?_))
    refine OpJ.qu (O.eqT 4 rfl rfl rfl rfl rfl eqO_ok eqO_g (eqO x o)) rfl ?_
    refine Spl.of (fun h3 => ?_) (fun h3 => ?_)
    · have h3 : x = o := of_decide_eq_true h3
      rw [h3] at hx
      have hd := dup_at hx
      rw [if_pos hd] at hE
      (repeat (first | refine Spl.t rfl ?_ | refine Spl.f rfl ?_))
      refine .out (by simp) ?_
      refine FinP.open rfl ?_
      unfold addR
      rw [hE]; rfl
    · have h3 : ¬ x = o := of_decide_eq_false h3
      rw [hdup, decide_eq_false h3] at hds
      refine Spl.of (fun h4 => ?_) (fun h4 => ?_)
      · rw [h4, Bool.true_or] at hcs
        (repeat (first | refine Spl.t rfl ?_ | refine Spl.f rfl ?_))
        exact ⟨i + 1, ⟨by omega, hds⟩, by omega, ⟨some_iv (wrap_id _ (by omega) (by omega)), some_bv hcs.symm, trivial⟩, (by repeat' (first | exact trivial | exact rfl | refine And.intro ?_ ?_)), (by repeat' (first | exact trivial | exact rfl | refine And.intro ?_ ?_)), (by repeat' (first | exact trivial | exact rfl | refine And.intro ?_ ?_))⟩
      · rw [h4, Bool.false_or] at hcs
        (repeat (first | refine Spl.t rfl ?_ | refine Spl.f rfl ?_))
        refine Spl.of (fun h5 => ?_) (fun h5 => ?_)
        · have h5 : x.k = 0 := of_decide_eq_true h5
          (repeat (first | refine Spl.t rfl ?_ | refine Spl.f rfl ?_))
          refine Spl.of (fun h6 => ?_) (fun h6 => ?_)
          · have h6 : o.k = 0 := of_decide_eq_true h6
            have e : decide (x.k = 0 ∧ o.k = 0 ∧ x.i = o.i) = decide (x.i = o.i) := decide_eq_decide.2 ⟨fun h => h.2.2, fun h => ⟨h5, h6, h⟩⟩
            rw [e] at hcs
            (repeat (first | refine Spl.t rfl ?_ | refine Spl.f rfl ?_))
            refine OpJ.qu (O.eqT 3 rfl rfl rfl rfl rfl eqI_ok eqI_g (eqI x.i o.i)) rfl ?_
            (repeat (first | refine Spl.t rfl ?_ | refine Spl.f rfl ?_))
            exact ⟨i + 1, ⟨by omega, hds⟩, by omega, ⟨some_iv (wrap_id _ (by omega) (by omega)), some_bv hcs.symm, trivial⟩, (by repeat' (first | exact trivial | exact rfl | refine And.intro ?_ ?_)), (by repeat' (first | exact trivial | exact rfl | refine And.intro ?_ ?_)), (by repeat' (first | exact trivial | exact rfl | refine And.intro ?_ ?_))⟩
          · have h6 : ¬ o.k = 0 := of_decide_eq_false h6
            rw [decide_eq_false (fun h => h6 h.2.1)] at hcs
            (repeat (first | refine Spl.t rfl ?_ | refine Spl.f rfl ?_))
            exact ⟨i + 1, ⟨by omega, hds⟩, by omega, ⟨some_iv (wrap_id _ (by omega) (by omega)), some_bv hcs.symm, trivial⟩, (by repeat' (first | exact trivial | exact rfl | refine And.intro ?_ ?_)), (by repeat' (first | exact trivial | exact rfl | refine And.intro ?_ ?_)), (by repeat' (first | exact trivial | exact rfl | refine And.intro ?_ ?_))⟩
        · have h5 : ¬ x.k = 0 := of_decide_eq_false h5
          rw [decide_eq_false (fun h => h5 h.1)] at hcs
          (repeat (first | refine Spl.t rfl ?_ | refine Spl.f rfl ?_))
          exact ⟨i + 1, ⟨by omega, hds⟩, by omega, ⟨some_iv (wrap_id _ (by omega) (by omega)), some_bv hcs.symm, trivial⟩, (by repeat' (first | exact trivial | exact rfl | refine And.intro ?_ ?_)), (by repeat' (first | exact trivial | exact rfl | refine And.intro ?_ ?_)), (by repeat' (first | exact trivial | exact rfl | refine And.intro ?_ ?_))⟩
  · have h2 := of_decide_eq_false h2
    simp at h2
    have hall : R.take i = R := List.take_of_length_le (by omega)
    rw [hall] at hdup ⊢
    rw [hdup, if_neg (by decide)] at hE
    (repeat (first | refine Spl.t rfl ?_ | refine Spl.f rfl ?_))
    (first | refine Sq.go ?_ | refine vL_nil (Sq.go ?_) | skip)
    try refine WJ.cut ?_
    (first | refine Sq.go ?_ | refine vL_nil (Sq.go ?_) | skip)
    try refine WJ.cut ?_
    refine Spl.of (fun h3 => ?_) (fun h3 => ?_)
    · rw [h3, if_pos rfl] at hE
      (repeat (first | refine Spl.t rfl ?_ | refine Spl.f rfl ?_))
      refine .out (by simp) ?_
      refine FinP.open rfl ?_
      unfold addR
      rw [hE]; rfl
    · rw [h3, if_neg (by decide)] at hE
      (repeat (first | refine Spl.t rfl ?_ | refine Spl.f rfl ?_))
      refine Spl.of (fun h4 => ?_) (fun h4 => ?_)
      · have h4 := of_decide_eq_true h4
        simp at h4
        rw [if_pos (by omega)] at hE
        (repeat (first | refine Spl.t rfl ?_ | refine Spl.f rfl ?_))
        refine .out (by simp) ?_
        refine FinP.open rfl ?_
        unfold addR
        rw [hE]; rfl
      · have h4 := of_decide_eq_false h4
        simp at h4
        rw [if_neg (by omega)] at hE
        (repeat (first | refine Spl.t rfl ?_ | refine Spl.f rfl ?_))
        (first | refine Sq.go ?_ | refine vL_nil (Sq.go ?_) | skip)
        try refine vc_sound _ _ _ _ ?_
        refine RegP.mix 9 rfl (by decide +kernel) ?_
        refine Req.of ⟨by omega, by omega, by omega, rfl⟩ ?_
        refine QuietP.of (QJ.appG rfl (.full _ _) (FlatQ.data rfl rfl) rfl (by show _ + 1 ≤ _; rw [List.length_drop, List.length_take, List.length_map]; omega)) ?_
        (repeat' (first | exact trivial | refine And.intro ?_ ?_))
        refine FinP.open rfl ?_
        unfold addR
        rw [hE, if_pos rfl, rmv, ← take_all6 R]; rfl
theorem RAdd_c (R : List OP) (o : OP) (hR : R.length ≤ 1000000) : Cv 108 [.d (.sl 6 (R.map opD)), opv o] (.tup [.d (.sl 6 ((addR R o).map opD)), iv (addE R o)]) := by
  refine Ct.of_wv Tryz.f108 Tryz.func108 rfl rfl fun w H B g0 => ?_
  try refine WJ.cut ?_
  (first | refine Sq.go ?_ | refine vL_nil (Sq.go ?_) | skip)
  try refine WJ.cut ?_
  refine OpJ.callV (RCheck5_c o) (fun _ _ => rfl) rfl rfl rfl ?_
  (first | refine Sq.go ?_ | refine vL_nil (Sq.go ?_) | skip)
  try refine WJ.cut ?_
  refine Spl.of (fun h1 => ?_) (fun h1 => ?_)
  · have h1 : checkO o ≠ 0 := by simpa using h1
    have hE : addE R o = checkO o := by unfold addE; rw [if_pos h1]
    (repeat (first | refine Spl.t rfl ?_ | refine Spl.f rfl ?_))
    refine .out (by simp) ?_
    refine FinP.open rfl ?_
    unfold addR
    rw [hE, if_neg h1]; rfl
  have h1 : checkO o = 0 := by simpa using h1
  have hE : addE R o = if dupR R o = true then 4 else if clashR R o = true then 5 else if 16 ≤ R.length then 7 else 0 := by unfold addE; rw [if_neg (fun e => e h1)]
  (first | refine Sq.go ?_ | refine vL_nil (Sq.go ?_) | skip)
  try refine WJ.cut ?_
  refine WJ.loopK (V := Nat) (fun i => [(7, iv i)]) (fun _ => []) [] (fun i => R.length - i) (fun i => i ≤ R.length ∧ dupR (R.take i) o = false) 0 ⟨by omega, rfl⟩ (by repeat' (first | exact trivial | exact rfl | refine And.intro ?_ ?_)) (by repeat' (first | exact trivial | exact rfl | refine And.intro ?_ ?_)) ?_
  rintro i ⟨hi, hdup⟩
  refine Spl.of (fun h2 => ?_) (fun h2 => ?_)
  · have hlt : i < R.length := by have := of_decide_eq_true h2; simp at this; omega
    have hx : R[i]? = some R[i] := by simp
    have hsn := take_snoc hx
    have hds := dup_snoc (R.take i) R[i] o
    rw [← hsn] at hds
    generalize R[i] = x at hx hds
    (repeat (first | refine Spl.t rfl ?_ | refine Spl.f rfl ?_))
    refine RegP.of rfl (by decide +kernel) ?_
    refine IdxP.of (opD x) (by omega) (by simp [hx]) ?_
    refine QuietP.of (O.eqT 4 rfl rfl rfl rfl rfl eqRO_ok eqRO_g (eqRO x o)) ?_
    refine Spl.of (fun h3 => ?_) (fun h3 => ?_)
    · have h3 : x = o := of_decide_eq_true h3
      rw [h3] at hx
      have hd := dup_at hx
      rw [if_pos hd] at hE
      (repeat (first | refine Spl.t rfl ?_ | refine Spl.f rfl ?_))
      refine .out (by simp) ?_
      refine FinP.open rfl ?_
      unfold addR
      rw [hE]; rfl
    · have h3 : ¬ x = o := of_decide_eq_false h3
      rw [hdup, decide_eq_false h3] at hds
      (repeat (first | refine Spl.t rfl ?_ | refine Spl.f rfl ?_))
      exact ⟨i + 1, ⟨by omega, hds⟩, by omega, ⟨some_iv (wrap_id _ (by omega) (by omega)), trivial⟩, (by repeat' (first | exact trivial | exact rfl | refine And.intro ?_ ?_)), (by repeat' (first | exact trivial | exact rfl | refine And.intro ?_ ?_)), (by repeat' (first | exact trivial | exact rfl | refine And.intro ?_ ?_))⟩
  have h2 := of_decide_eq_false h2
  simp at h2
  have hall : R.take i = R := List.take_of_length_le (by omega)
  rw [hall] at hdup
  rw [hdup, if_neg (by decide)] at hE
  clear hi
  (repeat (first | refine Spl.t rfl ?_ | refine Spl.f rfl ?_))
  (first | refine Sq.go ?_ | refine vL_nil (Sq.go ?_) | skip)
  try refine WJ.cut ?_
  refine WJ.loopK (V := Nat) (fun i => [(8, iv i)]) (fun _ => []) [] (fun i => R.length - i) (fun i => i ≤ R.length ∧ clashR (R.take i) o = false) 0 ⟨by omega, rfl⟩ (by repeat' (first | exact trivial | exact rfl | refine And.intro ?_ ?_)) (by repeat' (first | exact trivial | exact rfl | refine And.intro ?_ ?_)) ?_
  rintro j ⟨hj, hcl⟩
  refine Spl.of (fun h3 => ?_) (fun h3 => ?_)
  · have hlt : j < R.length := by have := of_decide_eq_true h3; simp at this; omega
    have hx : R[j]? = some R[j] := by simp
    have hsn := take_snoc hx
    have hcs := clash_snoc (R.take j) R[j] o
    rw [← hsn, hcl, Bool.false_or] at hcs
    generalize R[j] = x at hx hcs
    have no : decide (x.k = 0 ∧ o.k = 0 ∧ x.i = o.i) = false → clashR (R.take (j + 1)) o = false := fun e => hcs.trans e
    (repeat (first | refine Spl.t rfl ?_ | refine Spl.f rfl ?_))
    refine RegP.of rfl (by decide +kernel) ?_
    refine IdxP.of (opD x) (by omega) (by simp [hx]) ?_
    refine Spl.of (fun h5 => ?_) (fun h5 => ?_)
    · have h5 : x.k = 0 := of_decide_eq_true h5
      (repeat (first | refine Spl.t rfl ?_ | refine Spl.f rfl ?_))
      refine Spl.of (fun h6 => ?_) (fun h6 => ?_)
      · have h6 : o.k = 0 := of_decide_eq_true h6
        have e : decide (x.k = 0 ∧ o.k = 0 ∧ x.i = o.i) = decide (x.i = o.i) := decide_eq_decide.2 ⟨fun h => h.2.2, fun h => ⟨h5, h6, h⟩⟩
        rw [e] at hcs no
        (repeat (first | refine Spl.t rfl ?_ | refine Spl.f rfl ?_))
        refine IdxP.of (opD x) (by omega) (by simp [hx]) ?_
        (repeat (first | refine Spl.t rfl ?_ | refine Spl.f rfl ?_))
        refine QuietP.of (O.eqT 3 rfl rfl rfl rfl rfl eqR_ok eqR_g (eqR x.i o.i)) ?_
        (repeat (first | refine Spl.t rfl ?_ | refine Spl.f rfl ?_))
        refine Spl.of (fun h7 => ?_) (fun h7 => ?_)
        · have hc : clashR R o = true := clash_take (hcs.trans h7)
          rw [if_pos hc] at hE
          (repeat (first | refine Spl.t rfl ?_ | refine Spl.f rfl ?_))
          refine .out (by simp) ?_
          refine FinP.open rfl ?_
          unfold addR
          rw [hE]; rfl
        · have hn := no h7
          (repeat (first | refine Spl.t rfl ?_ | refine Spl.f rfl ?_))
          exact ⟨j + 1, ⟨by omega, hn⟩, by omega, ⟨some_iv (wrap_id _ (by omega) (by omega)), trivial⟩, (by repeat' (first | exact trivial | exact rfl | refine And.intro ?_ ?_)), (by repeat' (first | exact trivial | exact rfl | refine And.intro ?_ ?_)), (by repeat' (first | exact trivial | exact rfl | refine And.intro ?_ ?_))⟩
      · have h6 : ¬ o.k = 0 := of_decide_eq_false h6
        have hn := no (decide_eq_false (fun h => h6 h.2.1))
        (repeat (first | refine Spl.t rfl ?_ | refine Spl.f rfl ?_))
        exact ⟨j + 1, ⟨by omega, hn⟩, by omega, ⟨some_iv (wrap_id _ (by omega) (by omega)), trivial⟩, (by repeat' (first | exact trivial | exact rfl | refine And.intro ?_ ?_)), (by repeat' (first | exact trivial | exact rfl | refine And.intro ?_ ?_)), (by repeat' (first | exact trivial | exact rfl | refine And.intro ?_ ?_))⟩
    · have h5 : ¬ x.k = 0 := of_decide_eq_false h5
      have hn := no (decide_eq_false (fun h => h5 h.1))
      (repeat (first | refine Spl.t rfl ?_ | refine Spl.f rfl ?_))
      exact ⟨j + 1, ⟨by omega, hn⟩, by omega, ⟨some_iv (wrap_id _ (by omega) (by omega)), trivial⟩, (by repeat' (first | exact trivial | exact rfl | refine And.intro ?_ ?_)), (by repeat' (first | exact trivial | exact rfl | refine And.intro ?_ ?_)), (by repeat' (first | exact trivial | exact rfl | refine And.intro ?_ ?_))⟩
  have h3 := of_decide_eq_false h3
  simp at h3
  have hall2 : R.take j = R := List.take_of_length_le (by omega)
  rw [hall2] at hcl
  rw [hcl, if_neg (by decide)] at hE
  (repeat (first | refine Spl.t rfl ?_ | refine Spl.f rfl ?_))
  (first | refine Sq.go ?_ | refine vL_nil (Sq.go ?_) | skip)
  try refine WJ.cut ?_
  refine Spl.of (fun h4 => ?_) (fun h4 => ?_)
  · have h4 := of_decide_eq_true h4
    simp at h4
    rw [if_pos (by omega)] at hE
    (repeat (first | refine Spl.t rfl ?_ | refine Spl.f rfl ?_))
    refine .out (by simp) ?_
    refine FinP.open rfl ?_
    unfold addR
    rw [hE]; rfl
  · have h4 := of_decide_eq_false h4
    simp at h4
    rw [if_neg (by omega)] at hE
    (repeat (first | refine Spl.t rfl ?_ | refine Spl.f rfl ?_))
    (first | refine Sq.go ?_ | refine vL_nil (Sq.go ?_) | skip)
    try refine vc_sound _ _ _ _ ?_
    refine RegP.mix 5 rfl (by decide +kernel) ?_
    refine QuietP.born (Go.Gv.B.appF (i := 62) rfl (.full _ _) (FlatQ.data rfl rfl) rfl (by show 0 + _ ≤ _; rw [List.length_map]; omega) (.inr rfl)) ?_
    (repeat' (first | exact trivial | refine And.intro ?_ ?_))
    refine Req.of ⟨by rw [List.length_append], by rw [List.length_map]; show 0 + _ + 1 ≤ _; omega⟩ ?_
    (repeat' (first | exact trivial | refine And.intro ?_ ?_))
    refine FinP.pubTup 62 0 rfl rfl (by rw [List.length_append]; exact Nat.add_le_add_right (by rw [List.length_append]; exact Nat.le_refl _) _) (by rw [List.length_map]; show 0 + _ + 1 ≤ _; omega) (FinP.open rfl ?_)
    unfold addR
    rw [hE, if_pos rfl, List.take_of_length_le (by rw [List.length_append, List.length_append]; exact Nat.le_refl _)]
    show AV.tup [.d (.sl 6 ([] ++ R.map opD ++ [opD o])), _] = _
    rw [List.nil_append, List.map_append]; rfl
end Go.Proofs.E
end
