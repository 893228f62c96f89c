/- Laws that the claim's text stands on: A replica's elements: what is there, where; A replica's elements: operations are applied; A replica's elements: the law's example; the law CoreFull; What the reference says of a row: letters, text, rank; Is a row the document's?; The reference's state of operations: has, wrong, place; The reference: why an operation can't be applied; Private rows cut; append of a private row's end onto data that has no room; The reference: the row of operations; The law PmapPlays; Is a state the document's?; The law CorePlays; A room of operations that wait; A region that draws its order whose tail waits on all of the head but on its last operation (a late load); A room of operations that wait: the next that can be done; A room of operations that wait: the law's comparison; Whole numbers in double precision: exact up to 2^53; Doubles and complex numbers of whole parts; Contracts of the functions on tallies; Contracts of the functions on tallies: put, take; Contracts of the functions on tallies: the text; The laws on tallies: the example; TallyFull; The law TallyTurns; The document's tallies: a sum with an id more, its text; A version: what it tells; the next counter; A variable whose entry has a number of one's own; A version: the next counter, an operation taken in; the document's. -/
import Derived.Test.YtaojepfldokjdaaGreatDoorM1
import Derived.Test.YtaojepfldokjdaaGreatDoorM2
import Derived.Test.YtaojepfldokjdaaGreatDoorM3
import Derived.Test.YtaojepfldokjdaaGreatDoorDShelf
import Derived.Test.YtaojepfldokjdaaGreatDoorM4
import Derived.Test.YtaojepfldokjdaaGreatDoorM5
import Derived.CallsIn
set_option linter.unusedVariables false
set_option linter.unusedSimpArgs false
section
open Go Go.Gv
attribute [local irreducible] Go.Gv.WJ Go.Gv.OpJ Go.Gv.QJ Go.Gv.Spl Go.Gv.Req Go.Gv.IdxP Go.Gv.RegP Go.Gv.FinP Go.Gv.CellP Go.Gv.CellsP Go.Gv.ArrP Go.Gv.ArrsP Go.Gv.DropP Go.Gv.ByteP Go.Gv.StoreP
set_option maxRecDepth 100000
namespace Go.Proofs.E
attribute [local irreducible] elems
structure SS where
  t : TR
  p : PT
  n : Int
abbrev stv (s : SS) : AV := .agg [.d s.t.d, .d s.p.d, iv s.n]
/-- A state stands for the operations that were applied. -/
structure isS (s : SS) (l : List OP) : Prop where
  dn : Dn l
  els : s.t.els = rowE l
  bal : s.t.okb
  mp : ∃ M, isM s.p s.n M ∧ (∀ a, alook a M = entO l a) ∧ M.length = (insL l).length
theorem isS.size {s : SS} {l : List OP} (h : isS s l) : s.t.size = (insL l).length := by rw [← TR.els_len, h.els, row_len h.dn]
theorem isS.small {s : SS} {l : List OP} (h : isS s l) : s.t.size ≤ 4096 := by rw [h.size]; exact h.dn.is.len
theorem GetS_c {s : SS} {l : List OP} (h : isS s l) (a : ID) : Cv 284 [mapv s.p s.n, idv a] (getv (entO l a)) := by
  obtain ⟨M, h1, h2, _⟩ := h.mp
  rw [← h2]
  exact GetIs_c h1 a
theorem ent_some {l : List OP} {a : ID} : (entO l a).isSome = (findO 0 a l).isSome := by unfold entO; rw [Option.isSome_map]
theorem Has_c {s : SS} {l : List OP} (h : isS s l) (a : ID) : Cv 269 [stv s, idv a] (bv (findO 0 a l).isSome) := by
  have hg := GetS_c h a
  rw [← ent_some]
  cases he : entO l a with
  | none =>
    rw [he] at hg
    refine Ct.of_vc Tryz.f269 Tryz.func269 rfl rfl fun w H B g0 => ?_
    refine OpJ.callV hg (fun _ _ => rfl) rfl rfl rfl ?_
    (repeat (first | refine Spl.t rfl ?_ | refine Spl.f rfl ?_))
    exact FinP.open rfl rfl
  | some e =>
    rw [he] at hg
    refine Ct.of_vc Tryz.f269 Tryz.func269 rfl rfl fun w H B g0 => ?_
    refine OpJ.callV hg (fun _ _ => rfl) rfl rfl rfl ?_
    (repeat (first | refine Spl.t rfl ?_ | refine Spl.f rfl ?_))
    exact FinP.open rfl rfl
theorem okE_of {l : List OP} (h : Dn l) : ∀ e, e ∈ rowE l → okE e := fun e he => by
  obtain ⟨o, ho, rfl⟩ := (row_mem h).1 he
  obtain ⟨h1, h2⟩ := mem_insL.1 ho
  rcases (checkO_0 (h.is.ok o h1)).2 with ⟨h3, _⟩ | ⟨_, _, h4, h5⟩
  · omega
  · unfold okE elO; simp only; omega
theorem Find_c {s : SS} {l : List OP} (h : isS s l) (a : ID) : Cv 245 [stv s, idv a] (.tup [iv (placeL a (rowE l)), bv (decide (0 ≤ placeL a (rowE l)))]) := by
  have hs := h.small
  have it := tall_iter s.t (by omega)
  rw [h.els] at it
  refine Ct.of_wv Tryz.f245 Tryz.func245 rfl rfl fun w H B g0 => ?_
  (try refine WJ.cut ?_)
  (first | refine Sq.go ?_ | refine vL_nil (Sq.go ?_) | skip)
  (try refine WJ.cut ?_)
  refine OpJ.callV (Has_c h a) (fun _ _ => rfl) rfl rfl rfl ?_
  refine Spl.of (fun h1 => ?_) (fun h1 => ?_)
  · have h1 : (findO 0 a l).isSome = false := by simpa using h1
    have h2 := place_has h.dn a
    rw [h1] at h2
    have h3 : placeL a (rowE l) = -1 := by
      have := of_decide_eq_false h2
      have := placeL_ge a (rowE l)
      omega
    (repeat (first | refine Spl.t rfl ?_ | refine Spl.f rfl ?_))
    refine .out (by simp) ?_
    refine FinP.open rfl ?_
    rw [h3]; rfl
  · have h1 : (findO 0 a l).isSome = true := by simpa using h1
    have h2 := place_has h.dn a
    rw [h1] at h2
    have h3 := of_decide_eq_true h2
    (repeat (first | refine Spl.t rfl ?_ | refine Spl.f rfl ?_))
    (first | refine Sq.go ?_ | refine vL_nil (Sq.go ?_) | skip)
    (try refine WJ.cut ?_)
    refine OpJ.callV (TAll_c s.t) (fun _ _ => rfl) rfl rfl rfl ?_
    refine WJ.rangeK itA (itsL 0 (rowE l)) (V := Int × Bool) (fun v => [(4, .cells [iv v.1]), (5, .cells [bv v.2])]) [4, 5] (fun pre v => v = (0, false) ∧ ∀ x, x ∈ pre → x.2.id ≠ a) (fun c _ v => c = .ret ∧ v = (placeL a (rowE l), true)) (0, false) it rfl rfl (.fn _ _) rfl (fun _ _ => rfl) rfl rfl (fun _ => rfl) (by repeat' (first | exact trivial | exact rfl | refine And.intro ?_ ?_)) ⟨rfl, by simp⟩ ?_ ?_ ?_
    · intro l0 pre x post v hL hI w0 H0 B0 g1
      obtain ⟨rfl, hI⟩ := hI
      intro w0 H0 B0 g1
      have hget : (itsL 0 (rowE l))[pre.length]? = some x := by rw [hL]; simp
      rw [itsL_get] at hget
      obtain ⟨e, he⟩ : ∃ e, (rowE l)[pre.length]? = some e := by
        cases hz : (rowE l)[pre.length]? with
        | none => rw [hz] at hget; cases hget
        | some e => exact ⟨e, rfl⟩
      rw [he] at hget
      have hxe : x = (pre.length, e) := by simpa using hget.symm
      have hpre : ∀ j y, j < pre.length → (rowE l)[j]? = some y → y.id ≠ a := fun j y hj hy => by
        have h5 : (itsL 0 (rowE l))[j]? = some (j, y) := by rw [itsL_get, hy]; simp
        rw [hL, List.getElem?_append_left hj] at h5
        exact hI _ (List.mem_of_getElem? h5)
      subst hxe
      refine OpJ.qu (O.eqT 3 rfl rfl rfl rfl rfl eqI_ok eqI_g (eqI e.id a)) rfl ?_
      refine Spl.of (fun h4 => ?_) (fun h4 => ?_)
      · have h4 : e.id = a := of_decide_eq_true h4
        have hp := placeL_at he h4 hpre
        (repeat (first | refine Spl.t rfl ?_ | refine Spl.f rfl ?_))
        exact ⟨(placeL a (rowE l), true), ⟨rfl, rfl⟩, ⟨congrArg (fun z : Int => some (Ent.cells [iv z])) hp.symm, (by repeat' (first | exact trivial | exact rfl | refine And.intro ?_ ?_))⟩⟩
      · have h4 : ¬ e.id = a := of_decide_eq_false h4
        (repeat (first | refine Spl.t rfl ?_ | refine Spl.f rfl ?_))
        exact ⟨(0, false), ⟨rfl, fun y hy => by rcases List.mem_append.1 hy with hy | hy; exact hI y hy; rw [List.mem_singleton.1 hy]; exact h4⟩, (by repeat' (first | exact trivial | exact rfl | refine And.intro ?_ ?_))⟩
    · rintro v ⟨rfl, hI⟩
      exfalso
      obtain ⟨e, h4, h5, _⟩ := placeL_get h3
      have h6 : (itsL 0 (rowE l))[(placeL a (rowE l)).toNat]? = some (0 + (placeL a (rowE l)).toNat, e) := by rw [itsL_get, h4]; rfl
      exact hI _ (List.mem_of_getElem? h6) h5
    · rintro c p v ⟨rfl, rfl⟩
      refine .out (by simp) ?_
      refine FinP.open rfl ?_
      rw [decide_eq_true h3]; rfl
theorem atT_row {s : SS} {l : List OP} (h : isS s l) (k : Nat) : atT s.t (k : Int) = (rowE l)[k]? := by
  unfold atT; rw [if_pos (by omega), Int.toNat_natCast, h.els]
theorem posAt_place (f : OP → EL) (hf : ∀ x, (f x).id = x.i) (o : OP) : ∀ L : List OP, 0 ≤ placeL o.a (L.map f) → posAt o L = (placeL o.a (L.map f)).toNat + 1 + pos1 o (L.drop ((placeL o.a (L.map f)).toNat + 1))
  | [], h => by simp [placeL] at h
  | x :: r, h => by
    rw [List.map_cons, placeL] at h ⊢
    rw [posAt]
    by_cases e : x.i = o.a
    · rw [if_pos e, if_pos (by rw [hf]; exact e)]; simp; omega
    · rw [if_neg e, if_neg (by rw [hf]; exact e)]
      rw [if_neg (by rw [hf]; exact e)] at h
      by_cases e2 : placeL o.a (r.map f) < 0
      · rw [if_pos e2] at h; omega
      · rw [if_neg e2, posAt_place f hf o r (by omega), show (placeL o.a (r.map f) + 1).toNat = (placeL o.a (r.map f)).toNat + 1 by omega, List.drop_succ_cons]; omega
theorem place_none {l : List OP} (h : Dn l) : placeL ⟨0, 0⟩ (rowE l) = -1 := placeL_none fun e he e2 => by
  obtain ⟨o, ho, rfl⟩ := (row_mem h).1 he
  have := h.is.tk.is.c0 o ho
  have e3 : o.i = ⟨0, 0⟩ := e2
  rw [e3] at this; simp at this
theorem place_c {s : SS} {l : List OP} (h : isS s l) {o : OP} (hw : wrongO l o = 0) (hk : o.k = 0) : Cv 288 [stv s, opv o] (iv (posO l o)) := by
  have hs := h.small
  have hle := posO_le h.dn hw hk
  have hlen := row_len h.dn
  have hll := h.dn.is.len
  obtain ⟨hc, h1⟩ := wrong_0 hw
  obtain ⟨hnew, ha⟩ : findO 0 o.i l = none ∧ (o.a = ⟨0, 0⟩ ∨ (findO 0 o.a l).isSome = true) := by
    rcases h1 with ⟨h1, _⟩ | ⟨_, h2, h3, _⟩
    · omega
    · exact ⟨h2, h3⟩
  have start : (placeL o.a (rowE l) < 0 → o.a = ⟨0, 0⟩ ∧ 0 + pos1 o (folR (insL l)) = posO l o) ∧ (0 ≤ placeL o.a (rowE l) → (placeL o.a (rowE l)).toNat + 1 + pos1 o ((folR (insL l)).drop ((placeL o.a (rowE l)).toNat + 1)) = posO l o) := by
    refine ⟨fun hlt => ?_, fun hge => ?_⟩
    · have : o.a = ⟨0, 0⟩ := by
        rcases ha with ha | ha
        · exact ha
        · rw [← place_has h.dn] at ha
          have := of_decide_eq_true ha; omega
      refine ⟨this, ?_⟩
      unfold posO posR; rw [if_pos this, Nat.zero_add]
    · have : o.a ≠ ⟨0, 0⟩ := fun e => by rw [e, place_none h.dn] at hge; omega
      unfold posO posR; rw [if_neg this]
      exact (posAt_place (elO l) (fun _ => rfl) o _ hge).symm
  have hlp := placeL_lt o.a (rowE l)
  have hgp := placeL_ge o.a (rowE l)
  have stopN : ∀ k : Nat, k ≤ (rowE l).length → k + pos1 o ((folR (insL l)).drop k) = posO l o → (rowE l)[k]? = none → (k : Int) = posO l o := fun k hkl hpos hr => by
    have hkeq : k = (rowE l).length := by have := List.getElem?_eq_none_iff.1 hr; omega
    rw [← hpos, List.drop_eq_nil_of_le (by rw [h.dn.is.tk.is.len]; omega)]; rfl
  have stepN : ∀ (k : Nat) (e : EL), k + pos1 o ((folR (insL l)).drop k) = posO l o → (rowE l)[k]? = some e → (lessI e.id o.i = true → (k : Int) = posO l o) ∧ (lessI e.id o.i = false → k + 1 ≤ (rowE l).length ∧ k + 1 + pos1 o ((folR (insL l)).drop (k + 1)) = posO l o) := fun k e hpos hr => by
    obtain ⟨x, hx, hxe⟩ : ∃ x, (folR (insL l))[k]? = some x ∧ elO l x = e := by
      unfold rowE at hr
      rw [List.getElem?_map] at hr
      cases hz : (folR (insL l))[k]? with
      | none => rw [hz] at hr; cases hr
      | some x => rw [hz] at hr; exact ⟨x, rfl, Option.some.inj hr⟩
    have hxi : e.id = x.i := by rw [← hxe]; rfl
    have hd : (folR (insL l)).drop k = x :: (folR (insL l)).drop (k + 1) := by
      have hlt := (List.getElem?_eq_some_iff.1 hx).1
      rw [List.drop_eq_getElem_cons hlt]; congr 1; exact (List.getElem?_eq_some_iff.1 hx).2
    have hklt : k < (rowE l).length := (List.getElem?_eq_some_iff.1 hr).1
    have hxl := mem_insL.1 ((h.dn.is.tk.is.mem x).1 (List.mem_of_getElem? hx))
    have hne : x.i ≠ o.i := findO_none hnew x hxl.1 hxl.2
    rw [hd, pos1] at hpos
    refine ⟨fun h5 => ?_, fun h5 => ?_⟩
    · have hn : ¬ lessI o.i x.i = true := fun h6 => less_irr _ (less_tr h6 (hxi ▸ h5))
      rw [if_neg hn] at hpos; omega
    · have hn : lessI o.i x.i = true := less_tot (by rw [← hxi, h5]; decide) hne
      rw [if_pos hn] at hpos
      exact ⟨by omega, by omega⟩
  refine Ct.of_wv Tryz.f288 Tryz.func288 rfl rfl fun w H B g0 => ?_
  (try refine WJ.cut ?_)
  (first | refine Sq.go ?_ | refine vL_nil (Sq.go ?_) | skip)
  (try refine WJ.cut ?_)
  (first | refine Sq.go ?_ | refine vL_nil (Sq.go ?_) | skip)
  (try refine WJ.cut ?_)
  refine OpJ.callV (Find_c h o.a) (fun _ _ => rfl) rfl rfl rfl ?_
  (first | refine Sq.go ?_ | refine vL_nil (Sq.go ?_) | skip)
  (try refine WJ.cut ?_)
  refine Spl.of (fun h1 => ?_) (fun h1 => ?_)
  · have h1 := of_decide_eq_true h1
    have hK0 := start.2 h1
    have e1 : IntKind.i64.wrap (placeL o.a (rowE l) + 1) = (((placeL o.a (rowE l)).toNat + 1 : Nat) : Int) := by rw [wrap_id _ (by omega) (by omega)]; omega
    (repeat (first | refine Spl.t rfl ?_ | refine Spl.f rfl ?_))
    (first | refine Sq.go ?_ | refine vL_nil (Sq.go ?_) | skip)
    (try refine vc_sound _ _ _ _ ?_)
    refine WJ.loopK (V := Nat) (fun k => [(5, iv k)]) (fun _ => []) [] (fun k => (rowE l).length + 1 - k) (fun k => k ≤ (rowE l).length ∧ k + pos1 o ((folR (insL l)).drop k) = posO l o) ((placeL o.a (rowE l)).toNat + 1) ⟨by omega, hK0⟩ ⟨some_iv e1, trivial⟩ (by repeat' (first | exact trivial | exact rfl | refine And.intro ?_ ?_)) ?_
    (rintro k ⟨hkl, hpos⟩; obtain ⟨r, hr⟩ : ∃ r, atT s.t ((k : Nat) : Int) = r := ⟨_, rfl⟩; have hat := At_c s.t (k : Int) (by omega); rw [hr] at hat; rw [atT_row h] at hr; rcases r with _ | e; (have hfin := stopN k hkl hpos hr; refine OpJ.callV hat (fun _ _ => rfl) rfl rfl rfl ?_; (repeat (first | refine Spl.t rfl ?_ | refine Spl.f rfl ?_)); exact FinP.open rfl (congrArg iv hfin)); (obtain ⟨s1, s2⟩ := stepN k e hpos hr; refine OpJ.callV hat (fun _ _ => rfl) rfl rfl rfl ?_; (repeat (first | refine Spl.t rfl ?_ | refine Spl.f rfl ?_)); refine OpJ.callV (Less_c e.id o.i) (fun _ _ => rfl) rfl rfl rfl ?_; (repeat (first | refine Spl.t rfl ?_ | refine Spl.f rfl ?_)); refine Spl.of (fun h5 => ?_) (fun h5 => ?_); (have hfin := s1 h5; (repeat (first | refine Spl.t rfl ?_ | refine Spl.f rfl ?_)); exact FinP.open rfl (congrArg iv hfin)); (obtain ⟨s3, s4⟩ := s2 h5; (repeat (first | refine Spl.t rfl ?_ | refine Spl.f rfl ?_)); exact ⟨k + 1, ⟨s3, s4⟩, by omega, ⟨some_iv (wrap_id _ (by omega) (by omega)), trivial⟩, (by repeat' (first | exact trivial | exact rfl | refine And.intro ?_ ?_)), (by repeat' (first | exact trivial | exact rfl | refine And.intro ?_ ?_)), (by repeat' (first | exact trivial | exact rfl | refine And.intro ?_ ?_))⟩)))
  · have h1 := of_decide_eq_false h1
    have hK0 := (start.1 (by omega)).2
    (repeat (first | refine Spl.t rfl ?_ | refine Spl.f rfl ?_))
    (first | refine Sq.go ?_ | refine vL_nil (Sq.go ?_) | skip)
    (try refine vc_sound _ _ _ _ ?_)
    refine WJ.loopK (V := Nat) (fun k => [(5, iv k)]) (fun _ => []) [] (fun k => (rowE l).length + 1 - k) (fun k => k ≤ (rowE l).length ∧ k + pos1 o ((folR (insL l)).drop k) = posO l o) 0 ⟨by omega, hK0⟩ (by repeat' (first | exact trivial | exact rfl | refine And.intro ?_ ?_)) (by repeat' (first | exact trivial | exact rfl | refine And.intro ?_ ?_)) ?_
    (rintro k ⟨hkl, hpos⟩; obtain ⟨r, hr⟩ : ∃ r, atT s.t ((k : Nat) : Int) = r := ⟨_, rfl⟩; have hat := At_c s.t (k : Int) (by omega); rw [hr] at hat; rw [atT_row h] at hr; rcases r with _ | e; (have hfin := stopN k hkl hpos hr; refine OpJ.callV hat (fun _ _ => rfl) rfl rfl rfl ?_; (repeat (first | refine Spl.t rfl ?_ | refine Spl.f rfl ?_)); exact FinP.open rfl (congrArg iv hfin)); (obtain ⟨s1, s2⟩ := stepN k e hpos hr; refine OpJ.callV hat (fun _ _ => rfl) rfl rfl rfl ?_; (repeat (first | refine Spl.t rfl ?_ | refine Spl.f rfl ?_)); refine OpJ.callV (Less_c e.id o.i) (fun _ _ => rfl) rfl rfl rfl ?_; (repeat (first | refine Spl.t rfl ?_ | refine Spl.f rfl ?_)); refine Spl.of (fun h5 => ?_) (fun h5 => ?_); (have hfin := s1 h5; (repeat (first | refine Spl.t rfl ?_ | refine Spl.f rfl ?_)); exact FinP.open rfl (congrArg iv hfin)); (obtain ⟨s3, s4⟩ := s2 h5; (repeat (first | refine Spl.t rfl ?_ | refine Spl.f rfl ?_)); exact ⟨k + 1, ⟨s3, s4⟩, by omega, ⟨some_iv (wrap_id _ (by omega) (by omega)), trivial⟩, (by repeat' (first | exact trivial | exact rfl | refine And.intro ?_ ?_)), (by repeat' (first | exact trivial | exact rfl | refine And.intro ?_ ?_)), (by repeat' (first | exact trivial | exact rfl | refine And.intro ?_ ?_))⟩)))
end Go.Proofs.E
end
section
open Go Go.Gv
attribute [local irreducible] Go.Gv.WJ Go.Gv.OpJ Go.Gv.QJ Go.Gv.Spl Go.Gv.Req Go.Gv.IdxP Go.Gv.RegP Go.Gv.FinP Go.Gv.CellP Go.Gv.CellsP Go.Gv.ArrP Go.Gv.ArrsP Go.Gv.DropP Go.Gv.ByteP Go.Gv.StoreP
set_option maxRecDepth 100000
namespace Go.Proofs.E
attribute [local irreducible] elems
theorem id_of {x o : OP} (h1 : x.k = o.k) (h2 : x.i = o.i) (h3 : x.a = o.a) (h4 : x.ch = o.ch) : x = o := by
  obtain ⟨a, b, c, d⟩ := x
  obtain ⟨a', b', c', d'⟩ := o
  simp_all
theorem wrongI_c {s : SS} {l : List OP} (h : isS s l) {o : OP} (hc : checkO o = 0) (hk : o.k = 0) : Cv 287 [stv s, opv o] (iv (wrongO l o)) := by
  have hg := GetS_c h o.i
  have hw : wrongO l o = if findO 0 o.i l = some o then 4 else if (findO 0 o.i l).isSome = true then 5 else if o.a ≠ ⟨0, 0⟩ ∧ (findO 0 o.a l).isSome = false then 6 else if 4096 ≤ (insL l).length then 7 else 0 := by
    unfold wrongO; rw [if_neg (fun e => e hc), if_neg (by omega)]
  have hn : noneI o.a = decide (o.a = ⟨0, 0⟩) := by
    unfold noneI
    obtain ⟨a, b⟩ := o.a
    exact decide_eq_decide.2 ⟨fun h => by simp only at h; rw [h.1, h.2], fun h => by cases h; simp⟩
  cases hf : findO 0 o.i l with
  | some x =>
    obtain ⟨x1, x2, x3⟩ := findO_some hf
    have he : entO l o.i = some ⟨x.a, x.ch, deadO l o.i⟩ := by unfold entO; rw [hf]; rfl
    rw [he] at hg
    rw [hf] at hw
    refine Ct.of_vc Tryz.f287 Tryz.func287 rfl rfl fun w H B g0 => ?_
    refine OpJ.callV hg (fun _ _ => rfl) rfl rfl rfl ?_
    (repeat (first | refine Spl.t rfl ?_ | refine Spl.f rfl ?_))
    refine OpJ.qu (O.eqT 3 rfl rfl rfl rfl rfl eqI_ok eqI_g (eqI x.a o.a)) rfl ?_
    refine Spl.of (fun h1 => ?_) (fun h1 => ?_)
    · have h1 := of_decide_eq_true h1
      (repeat (first | refine Spl.t rfl ?_ | refine Spl.f rfl ?_))
      refine Spl.of (fun h2 => ?_) (fun h2 => ?_)
      · have h2 := of_decide_eq_true h2
        (repeat (first | refine Spl.t rfl ?_ | refine Spl.f rfl ?_))
        refine FinP.open rfl (congrArg iv ?_)
        rw [hw, if_pos (by rw [id_of (x2.trans hk.symm) x3 h1 h2])]
      · have h2 := of_decide_eq_false h2
        (repeat (first | refine Spl.t rfl ?_ | refine Spl.f rfl ?_))
        refine FinP.open rfl (congrArg iv ?_)
        rw [hw, if_neg (fun e => h2 (by rw [Option.some.inj e]))]; simp
    · have h1 := of_decide_eq_false h1
      (repeat (first | refine Spl.t rfl ?_ | refine Spl.f rfl ?_))
      refine FinP.open rfl (congrArg iv ?_)
      rw [hw, if_neg (fun e => h1 (by rw [Option.some.inj e]))]; simp
  | none =>
    have he : entO l o.i = none := by unfold entO; rw [hf]; rfl
    rw [he] at hg
    rw [hf, if_neg (by simp), if_neg (by simp)] at hw
    have hlen : ((s.t.size : Nat) : Int) = ((insL l).length : Int) := by rw [h.size]
    refine Ct.of_vc Tryz.f287 Tryz.func287 rfl rfl fun w H B g0 => ?_
    refine OpJ.callV hg (fun _ _ => rfl) rfl rfl rfl ?_
    (repeat (first | refine Spl.t rfl ?_ | refine Spl.f rfl ?_))
    refine OpJ.callV (None_c o.a) (fun _ _ => rfl) rfl rfl rfl ?_
    (repeat (first | refine Spl.t rfl ?_ | refine Spl.f rfl ?_))
    rw [hn]
    refine Spl.of (fun h3 => ?_) (fun h3 => ?_)
    · have h3 : o.a ≠ ⟨0, 0⟩ := by simpa using h3
      (repeat (first | refine Spl.t rfl ?_ | refine Spl.f rfl ?_))
      refine OpJ.callV (Has_c h o.a) (fun _ _ => rfl) rfl rfl rfl ?_
      (repeat (first | refine Spl.t rfl ?_ | refine Spl.f rfl ?_))
      refine Spl.of (fun h4 => ?_) (fun h4 => ?_)
      · have h4 : (findO 0 o.a l).isSome = false := by simpa using h4
        (repeat (first | refine Spl.t rfl ?_ | refine Spl.f rfl ?_))
        refine FinP.open rfl (congrArg iv ?_)
        rw [hw, if_pos ⟨h3, h4⟩]
      · have h4 : (findO 0 o.a l).isSome = true := by simpa using h4
        have hno : ¬ (o.a ≠ ⟨0, 0⟩ ∧ (findO 0 o.a l).isSome = false) := fun e => by rw [h4] at e; cases e.2
        ((repeat (first | refine Spl.t rfl ?_ | refine Spl.f rfl ?_)); refine OpJ.callV (TLen_c s.t) (fun _ _ => rfl) rfl rfl rfl ?_; refine Spl.of (fun h5 => ?_) (fun h5 => ?_); (have h5 := of_decide_eq_true h5; (repeat (first | refine Spl.t rfl ?_ | refine Spl.f rfl ?_)); refine FinP.open rfl (congrArg iv ?_); rw [hw, if_neg hno, if_pos (by omega)]); (have h5 := of_decide_eq_false h5; (repeat (first | refine Spl.t rfl ?_ | refine Spl.f rfl ?_)); refine FinP.open rfl (congrArg iv ?_); rw [hw, if_neg hno, if_neg (by omega)]))
    · have h3 : o.a = ⟨0, 0⟩ := by simpa using h3
      have hno : ¬ (o.a ≠ ⟨0, 0⟩ ∧ (findO 0 o.a l).isSome = false) := fun e => e.1 h3
      ((repeat (first | refine Spl.t rfl ?_ | refine Spl.f rfl ?_)); refine OpJ.callV (TLen_c s.t) (fun _ _ => rfl) rfl rfl rfl ?_; refine Spl.of (fun h5 => ?_) (fun h5 => ?_); (have h5 := of_decide_eq_true h5; (repeat (first | refine Spl.t rfl ?_ | refine Spl.f rfl ?_)); refine FinP.open rfl (congrArg iv ?_); rw [hw, if_neg hno, if_pos (by omega)]); (have h5 := of_decide_eq_false h5; (repeat (first | refine Spl.t rfl ?_ | refine Spl.f rfl ?_)); refine FinP.open rfl (congrArg iv ?_); rw [hw, if_neg hno, if_neg (by omega)]))
def insS (s : SS) (l : List OP) (o : OP) : SS := ⟨insT s.t (posO l o) ⟨o.i, o.ch, false⟩, PT.put 8 (keyI o.i) ⟨o.a, o.ch, false⟩ s.p, nPut s.p s.n o.i⟩
theorem insS_is {s : SS} {l : List OP} (h : isS s l) {o : OP} (hw : wrongO l o = 0) (hk : o.k = 0) : isS (insS s l o) (l ++ [o]) := by
  have hle := posO_le h.dn hw hk
  obtain ⟨hc, h1⟩ := wrong_0 hw
  have hnew : findO 0 o.i l = none := by
    rcases h1 with ⟨h1, _⟩ | ⟨_, h2, _⟩
    · omega
    · exact h2
  have hm := (checkO_0 hc).1
  refine ⟨.snoc h.dn hw, ?_, okb_insT _ _ h.bal, ?_⟩
  · have hsz : posO l o ≤ s.t.size := by rw [← TR.els_len, h.els]; exact hle
    show (insT s.t ((posO l o : Nat) : Int) ⟨o.i, o.ch, false⟩).els = _
    rw [insT, if_pos ⟨by omega, by omega⟩, Int.toNat_natCast, TR.els_ins _ _ _ hsz, h.els, row_ins h.dn hw hk]
  · obtain ⟨M, m1, m2, m3⟩ := h.mp
    refine ⟨insM o.i ⟨o.a, o.ch, false⟩ M, isM_put m1 hm _, fun a => ?_, ?_⟩
    · rw [alook_insM m1.up, ent_ins h.dn hw hk, m2]
    · rw [len_insM m1.up, m2, show entO l o.i = none by unfold entO; rw [hnew]; rfl, insL_snoc0 hk, List.length_append, m3]; simp
theorem insert_c {s : SS} {l : List OP} (h : isS s l) {o : OP} (hw : wrongO l o = 0) (hk : o.k = 0) : Cv 268 [stv s, opv o] (.tup [stv (insS s l o), iv (posO l o), iv 0]) := by
  obtain ⟨hc, h1⟩ := wrong_0 hw
  have hm := (checkO_0 hc).1
  have hwi := wrongI_c h hc hk
  rw [hw] at hwi
  obtain ⟨M, m1, m2, m3⟩ := h.mp
  have hll := h.dn.is.len
  have hle := posO_le h.dn hw hk
  have hi := Insert_c s.t (posO l o) ⟨o.i, o.ch, false⟩ (by have := h.small; omega)
  have hp := PutIs_c m1 (by omega) o.i ⟨o.a, o.ch, false⟩ hm
  refine Ct.of_wv Tryz.f268 Tryz.func268 rfl rfl fun w H B g0 => ?_
  (try refine WJ.cut ?_)
  (first | refine Sq.go ?_ | refine vL_nil (Sq.go ?_) | skip)
  (try refine WJ.cut ?_)
  refine OpJ.callV hwi (fun _ _ => rfl) rfl rfl rfl ?_
  (first | refine Sq.go ?_ | refine vL_nil (Sq.go ?_) | skip)
  (try refine WJ.cut ?_)
  (repeat (first | refine Spl.t rfl ?_ | refine Spl.f rfl ?_))
  (first | refine Sq.go ?_ | refine vL_nil (Sq.go ?_) | skip)
  (try refine WJ.cut ?_)
  refine OpJ.callV (place_c h hw hk) (fun _ _ => rfl) rfl rfl rfl ?_
  (first | refine Sq.go ?_ | refine vL_nil (Sq.go ?_) | skip)
  (try refine WJ.cut ?_)
  refine OpJ.callV hi (fun _ _ => rfl) rfl rfl rfl ?_
  (first | refine Sq.go ?_ | refine vL_nil (Sq.go ?_) | skip)
  (try refine WJ.cut ?_)
  refine OpJ.callV hp (fun _ _ => rfl) rfl rfl rfl ?_
  (first | refine Sq.go ?_ | refine vL_nil (Sq.go ?_) | skip)
  (try refine vc_sound _ _ _ _ ?_)
  exact FinP.open rfl rfl
theorem insertNo_c {s : SS} {l : List OP} (h : isS s l) {o : OP} (hc : checkO o = 0) (hw : wrongO l o ≠ 0) (hk : o.k = 0) : Cv 268 [stv s, opv o] (.tup [stv s, iv (-1), iv (wrongO l o)]) := by
  have hwi := wrongI_c h hc hk
  refine Ct.of_wv Tryz.f268 Tryz.func268 rfl rfl fun w H B g0 => ?_
  (try refine WJ.cut ?_)
  (first | refine Sq.go ?_ | refine vL_nil (Sq.go ?_) | skip)
  (try refine WJ.cut ?_)
  refine OpJ.callV hwi (fun _ _ => rfl) rfl rfl rfl ?_
  (first | refine Sq.go ?_ | refine vL_nil (Sq.go ?_) | skip)
  (try refine WJ.cut ?_)
  refine Spl.t (by simpa using hw) ?_
  (repeat (first | refine Spl.t rfl ?_ | refine Spl.f rfl ?_))
  refine .out (by simp) ?_
  exact FinP.open rfl rfl
def delE (l : List OP) (o : OP) : EN := (entO l o.i).getD EN.zero
def delS (s : SS) (l : List OP) (o : OP) : SS := ⟨setT s.t (placeL o.i (rowE l)) ⟨o.i, (delE l o).ch, true⟩, PT.put 8 (keyI o.i) ⟨(delE l o).a, (delE l o).ch, true⟩ s.p, nPut s.p s.n o.i⟩
theorem delS_is {s : SS} {l : List OP} (h : isS s l) {o : OP} (hw : wrongO l o = 0) (hk : o.k = 1) : isS (delS s l o) (l ++ [o]) := by
  obtain ⟨hc, h1⟩ := wrong_0 hw
  have hm := (checkO_0 hc).1
  obtain ⟨n, ch, d1, d2, d3, d4, d5⟩ := row_del h.dn hw hk
  have hde : delE l o = ⟨((findO 0 o.i l).map (·.a)).getD ⟨0, 0⟩, ch, false⟩ := by unfold delE; rw [d3]; rfl
  refine ⟨.snoc h.dn hw, ?_, okb_setT _ _ h.bal, ?_⟩
  · have hlt : n < s.t.size := by rw [← TR.els_len, h.els]; exact (List.getElem?_eq_some_iff.1 d2).1
    show (setT s.t (placeL o.i (rowE l)) ⟨o.i, (delE l o).ch, true⟩).els = _
    rw [d1, setT, if_pos (show hasT s.t (n : Int) = true from decide_eq_true ⟨by omega, by omega⟩), Int.toNat_natCast, TR.els_set _ _ _ hlt, h.els, d4, hde]
  · obtain ⟨M, m1, m2, m3⟩ := h.mp
    refine ⟨insM o.i ⟨(delE l o).a, (delE l o).ch, true⟩ M, isM_put m1 hm _, fun a => ?_, ?_⟩
    · rw [alook_insM m1.up, ent_del hk, m2]
      by_cases e : a = o.i
      · rw [if_pos e, if_pos e, e, d3, hde]; rfl
      · rw [if_neg e, if_neg e]
    · rw [len_insM m1.up, m2, d3, insL_snoc1 (by omega), m3]; rfl
theorem remove_c {s : SS} {l : List OP} (h : isS s l) {o : OP} (hw : wrongO l o = 0) (hk : o.k = 1) : Cv 267 [stv s, opv o] (.tup [stv (delS s l o), iv (placeL o.i (rowE l)), iv 0]) := by
  obtain ⟨hc, h1⟩ := wrong_0 hw
  have hm := (checkO_0 hc).1
  obtain ⟨n, ch, d1, d2, d3, d4, d5⟩ := row_del h.dn hw hk
  have hg := GetS_c h o.i
  have hde : delE l o = ⟨((findO 0 o.i l).map (·.a)).getD ⟨0, 0⟩, ch, false⟩ := by unfold delE; rw [d3]; rfl
  rw [d3, ← hde] at hg
  obtain ⟨M, m1, m2, m3⟩ := h.mp
  have hll := h.dn.is.len
  have hi := Set_c s.t (placeL o.i (rowE l)) ⟨o.i, (delE l o).ch, true⟩ (by have := h.small; omega)
  have hp := PutIs_c m1 (by omega) o.i ⟨(delE l o).a, (delE l o).ch, true⟩ hm
  have hdd : (delE l o).dead = false := by rw [hde]
  have hf := Find_c h o.i
  refine Ct.of_wv Tryz.f267 Tryz.func267 rfl rfl fun w H B g0 => ?_
  (try refine WJ.cut ?_)
  (first | refine Sq.go ?_ | refine vL_nil (Sq.go ?_) | skip)
  (try refine WJ.cut ?_)
  refine OpJ.callV hg (fun _ _ => rfl) rfl rfl rfl ?_
  (first | refine Sq.go ?_ | refine vL_nil (Sq.go ?_) | skip)
  (try refine WJ.cut ?_)
  (repeat (first | refine Spl.t rfl ?_ | refine Spl.f rfl ?_))
  refine Spl.f hdd ?_
  (first | refine Sq.go ?_ | refine vL_nil (Sq.go ?_) | skip)
  (try refine WJ.cut ?_)
  refine OpJ.callV hf (fun _ _ => rfl) rfl rfl rfl ?_
  (first | refine Sq.go ?_ | refine vL_nil (Sq.go ?_) | skip)
  (try refine WJ.cut ?_)
  (first | refine Sq.go ?_ | refine vL_nil (Sq.go ?_) | skip)
  (try refine WJ.cut ?_)
  refine OpJ.callV hi (fun _ _ => rfl) rfl rfl rfl ?_
  (first | refine Sq.go ?_ | refine vL_nil (Sq.go ?_) | skip)
  (try refine WJ.cut ?_)
  refine OpJ.callV hp (fun _ _ => rfl) rfl rfl rfl ?_
  (first | refine Sq.go ?_ | refine vL_nil (Sq.go ?_) | skip)
  (try refine vc_sound _ _ _ _ ?_)
  exact FinP.open rfl rfl
theorem removeNo_c {s : SS} {l : List OP} (h : isS s l) {o : OP} (hc : checkO o = 0) (hw : wrongO l o ≠ 0) (hk : o.k = 1) : Cv 267 [stv s, opv o] (.tup [stv s, iv (-1), iv (wrongO l o)]) := by
  have hg := GetS_c h o.i
  have hwe : wrongO l o = if (findO 0 o.i l).isSome = true then (if deadO l o.i = true then 4 else 0) else 6 := by
    unfold wrongO; rw [if_neg (fun e => e hc), if_pos hk]
  rw [hwe] at hw
  rw [hwe]
  cases hf : findO 0 o.i l with
  | none =>
    have he : entO l o.i = none := by unfold entO; rw [hf]; rfl
    rw [he] at hg
    refine Ct.of_vc Tryz.f267 Tryz.func267 rfl rfl fun w H B g0 => ?_
    refine OpJ.callV hg (fun _ _ => rfl) rfl rfl rfl ?_
    (repeat (first | refine Spl.t rfl ?_ | refine Spl.f rfl ?_))
    exact FinP.open rfl rfl
  | some x =>
    have he : entO l o.i = some ⟨x.a, x.ch, deadO l o.i⟩ := by unfold entO; rw [hf]; rfl
    rw [he] at hg
    rw [hf, if_pos (show (some x).isSome = true from rfl)] at hw
    have hd : deadO l o.i = true := by
      cases hd : deadO l o.i with
      | true => rfl
      | false => rw [hd] at hw; exact absurd rfl hw
    rw [if_pos (show (some x).isSome = true from rfl), if_pos hd]
    refine Ct.of_vc Tryz.f267 Tryz.func267 rfl rfl fun w H B g0 => ?_
    refine OpJ.callV hg (fun _ _ => rfl) rfl rfl rfl ?_
    (repeat (first | refine Spl.t rfl ?_ | refine Spl.f rfl ?_))
    refine Spl.t hd ?_
    (repeat (first | refine Spl.t rfl ?_ | refine Spl.f rfl ?_))
    exact FinP.open rfl rfl
/-- A state behind an operation. -/
def appS (s : SS) (l : List OP) (o : OP) : SS := if wrongO l o = 0 then (if o.k = 1 then delS s l o else insS s l o) else s
def appL (l : List OP) (o : OP) : List OP := if wrongO l o = 0 then l ++ [o] else l
def atO (l : List OP) (o : OP) : Int := if wrongO l o = 0 then placeL o.i (rowE (l ++ [o])) else -1
theorem appS_is {s : SS} {l : List OP} (h : isS s l) (o : OP) : isS (appS s l o) (appL l o) := by
  unfold appS appL
  split
  · next hw =>
    split
    · next hk => exact delS_is h hw hk
    · next hk =>
      have : o.k = 0 := by rcases (checkO_0 (wrong_0 hw).1).2 with h | h; exact absurd h.1 hk; exact h.1
      exact insS_is h hw this
  · exact h
theorem Apply_c {s : SS} {l : List OP} (h : isS s l) (o : OP) : Cv 241 [stv s, opv o] (.tup [stv (appS s l o), iv (atO l o), iv (wrongO l o)]) := by
  by_cases hc : checkO o = 0
  · have hkk := (checkO_0 hc).2
    have hck := Check5_c o
    rw [hc] at hck
    by_cases hk : o.k = 1
    · have key : Cv 267 [stv s, opv o] (.tup [stv (appS s l o), iv (atO l o), iv (wrongO l o)]) := by
        unfold appS atO
        by_cases hw : wrongO l o = 0
        · obtain ⟨n, ch, d1, d2, d3, d4, d5⟩ := row_del h.dn hw hk
          have := remove_c h hw hk
          rw [if_pos hw, if_pos hk, if_pos hw, hw, d5, ← d1]; exact this
        · rw [if_neg hw, if_neg hw]; exact removeNo_c h hc hw hk
      refine Ct.of_vc Tryz.f241 Tryz.func241 rfl rfl fun w H B g0 => ?_
      refine OpJ.callV hck (fun _ _ => rfl) rfl rfl rfl ?_
      (repeat (first | refine Spl.t rfl ?_ | refine Spl.f rfl ?_))
      refine Spl.t (by rw [hk]; rfl) ?_
      refine OpJ.callV key (fun _ _ => rfl) rfl rfl rfl ?_
      (repeat (first | refine Spl.t rfl ?_ | refine Spl.f rfl ?_))
      exact FinP.open rfl rfl
    · have hk0 : o.k = 0 := by rcases hkk with h | h; exact absurd h.1 hk; exact h.1
      have key : Cv 268 [stv s, opv o] (.tup [stv (appS s l o), iv (atO l o), iv (wrongO l o)]) := by
        unfold appS atO
        by_cases hw : wrongO l o = 0
        · have := insert_c h hw hk0
          rw [if_pos hw, if_neg hk, if_pos hw, hw, place_ins h.dn hw hk0]; exact this
        · rw [if_neg hw, if_neg hw]; exact insertNo_c h hc hw hk0
      refine Ct.of_vc Tryz.f241 Tryz.func241 rfl rfl fun w H B g0 => ?_
      refine OpJ.callV hck (fun _ _ => rfl) rfl rfl rfl ?_
      (repeat (first | refine Spl.t rfl ?_ | refine Spl.f rfl ?_))
      refine Spl.f (by rw [hk0]; rfl) ?_
      (repeat (first | refine Spl.t rfl ?_ | refine Spl.f rfl ?_))
      refine OpJ.callV key (fun _ _ => rfl) rfl rfl rfl ?_
      (repeat (first | refine Spl.t rfl ?_ | refine Spl.f rfl ?_))
      exact FinP.open rfl rfl
  · have hw : wrongO l o = checkO o := by unfold wrongO; rw [if_pos hc]
    have hw0 : ¬ wrongO l o = 0 := by rw [hw]; exact hc
    unfold appS atO
    rw [if_neg hw0, if_neg hw0, hw]
    refine Ct.of_vc Tryz.f241 Tryz.func241 rfl rfl fun w H B g0 => ?_
    refine OpJ.callV (Check5_c o) (fun _ _ => rfl) rfl rfl rfl ?_
    refine Spl.t (by simpa using hc) ?_
    (repeat (first | refine Spl.t rfl ?_ | refine Spl.f rfl ?_))
    exact FinP.open rfl rfl
theorem isS_nil : isS ⟨.nil, .nil, 0⟩ [] := ⟨.nil, rfl, trivial, [], isM_nil, fun _ => rfl, rfl⟩
end Go.Proofs.E
end
section
open Go Go.Gv
attribute [local irreducible] Go.Gv.WJ Go.Gv.OpJ Go.Gv.QJ Go.Gv.Spl Go.Gv.Req Go.Gv.IdxP Go.Gv.RegP Go.Gv.FinP Go.Gv.CellP Go.Gv.CellsP Go.Gv.ArrP Go.Gv.ArrsP Go.Gv.DropP Go.Gv.ByteP Go.Gv.StoreP
set_option maxRecDepth 100000
namespace Go.Proofs.E
attribute [local irreducible] elems
abbrev opD (o : OP) : List D := [.v (.int .i64 o.k), .v (.int .i64 o.i.c), .v (.int .i64 o.i.s), .v (.int .i64 o.a.c), .v (.int .i64 o.a.s), .v (.int .i32 o.ch)]
def aw6 : List OP := [⟨0, ⟨1, 1⟩, ⟨0, 0⟩, 97⟩, ⟨0, ⟨2, 1⟩, ⟨1, 1⟩, 98⟩, ⟨0, ⟨2, 2⟩, ⟨1, 1⟩, 99⟩]
theorem run3 : ∃ s, isS s aw6 ∧ ∃ s1 s2, isS s1 [⟨0, ⟨1, 1⟩, ⟨0, 0⟩, 97⟩] ∧ isS s2 [⟨0, ⟨1, 1⟩, ⟨0, 0⟩, 97⟩, ⟨0, ⟨2, 1⟩, ⟨1, 1⟩, 98⟩] ∧
    Cv 241 [stv ⟨.nil, .nil, 0⟩, opv ⟨0, ⟨1, 1⟩, ⟨0, 0⟩, 97⟩] (.tup [stv s1, iv 0, iv 0]) ∧
    Cv 241 [stv s1, opv ⟨0, ⟨2, 1⟩, ⟨1, 1⟩, 98⟩] (.tup [stv s2, iv 1, iv 0]) ∧
    Cv 241 [stv s2, opv ⟨0, ⟨2, 2⟩, ⟨1, 1⟩, 99⟩] (.tup [stv s, iv 1, iv 0]) := by
  have h1 := appS_is isS_nil ⟨0, ⟨1, 1⟩, ⟨0, 0⟩, 97⟩
  have a1 := Apply_c isS_nil ⟨0, ⟨1, 1⟩, ⟨0, 0⟩, 97⟩
  rw [show appL [] ⟨0, ⟨1, 1⟩, ⟨0, 0⟩, 97⟩ = [⟨0, ⟨1, 1⟩, ⟨0, 0⟩, 97⟩] by decide +kernel] at h1
  rw [show atO [] ⟨0, ⟨1, 1⟩, ⟨0, 0⟩, 97⟩ = 0 by decide +kernel, show wrongO [] ⟨0, ⟨1, 1⟩, ⟨0, 0⟩, 97⟩ = 0 by decide +kernel] at a1
  have h2 := appS_is h1 ⟨0, ⟨2, 1⟩, ⟨1, 1⟩, 98⟩
  have a2 := Apply_c h1 ⟨0, ⟨2, 1⟩, ⟨1, 1⟩, 98⟩
  rw [show appL [⟨0, ⟨1, 1⟩, ⟨0, 0⟩, 97⟩] ⟨0, ⟨2, 1⟩, ⟨1, 1⟩, 98⟩ = [⟨0, ⟨1, 1⟩, ⟨0, 0⟩, 97⟩, ⟨0, ⟨2, 1⟩, ⟨1, 1⟩, 98⟩] by decide +kernel] at h2
  rw [show atO [⟨0, ⟨1, 1⟩, ⟨0, 0⟩, 97⟩] ⟨0, ⟨2, 1⟩, ⟨1, 1⟩, 98⟩ = 1 by decide +kernel, show wrongO [⟨0, ⟨1, 1⟩, ⟨0, 0⟩, 97⟩] ⟨0, ⟨2, 1⟩, ⟨1, 1⟩, 98⟩ = 0 by decide +kernel] at a2
  have h3 := appS_is h2 ⟨0, ⟨2, 2⟩, ⟨1, 1⟩, 99⟩
  have a3 := Apply_c h2 ⟨0, ⟨2, 2⟩, ⟨1, 1⟩, 99⟩
  rw [show appL [⟨0, ⟨1, 1⟩, ⟨0, 0⟩, 97⟩, ⟨0, ⟨2, 1⟩, ⟨1, 1⟩, 98⟩] ⟨0, ⟨2, 2⟩, ⟨1, 1⟩, 99⟩ = aw6 by decide +kernel] at h3
  rw [show atO [⟨0, ⟨1, 1⟩, ⟨0, 0⟩, 97⟩, ⟨0, ⟨2, 1⟩, ⟨1, 1⟩, 98⟩] ⟨0, ⟨2, 2⟩, ⟨1, 1⟩, 99⟩ = 1 by decide +kernel, show wrongO [⟨0, ⟨1, 1⟩, ⟨0, 0⟩, 97⟩, ⟨0, ⟨2, 1⟩, ⟨1, 1⟩, 98⟩] ⟨0, ⟨2, 2⟩, ⟨1, 1⟩, 99⟩ = 0 by decide +kernel] at a3
  exact ⟨_, h3, _, _, h1, h2, a1, a2, a3⟩
theorem TextS_c {s : SS} {l : List OP} (h : isS s l) : Cv 152 [tv s.t] (sv (byt (txtZ (rowE l)))) := by
  have := Text_c s.t (by have := h.small; omega) (by rw [h.els]; exact okE_of h.dn)
  rw [h.els] at this; exact this
theorem Awake6_c : Cv 249 [] (bv true) := by
  obtain ⟨s3, h3, s1, s2, h1, h2, a1, a2, a3⟩ := run3
  have tx := TextS_c h3
  have he : byt (txtZ (rowE aw6)) = [97, 99, 98] := by decide +kernel
  rw [he] at tx
  refine Ct.of_wv Tryz.f249 Tryz.func249 rfl rfl fun w H B g0 => ?_
  (try refine WJ.cut ?_)
  (first | refine Sq.go ?_ | refine vL_nil (Sq.go ?_) | skip)
  (try refine WJ.cut ?_)
  (first | refine Sq.go ?_ | refine vL_nil (Sq.go ?_) | skip)
  (try refine WJ.cut ?_)
  refine WJ.loopK (V := Nat) (fun v => [(14, iv v)]) (fun v => [(1, .cells (match v with | 0 => [.d TR.nil.d, .d PT.nil.d, iv 0] | 1 => [.d s1.t.d, .d s1.p.d, iv s1.n] | 2 => [.d s2.t.d, .d s2.p.d, iv s2.n] | _ => [.d s3.t.d, .d s3.p.d, iv s3.n]))]) [1] (fun v => 3 - v) (fun v => v ≤ 3) 0 (by decide) (by repeat' (first | exact trivial | exact rfl | refine And.intro ?_ ?_)) (by repeat' (first | exact trivial | exact rfl | refine And.intro ?_ ?_)) ?_
  intro v hv
  obtain rfl | rfl | rfl | rfl : v = 0 ∨ v = 1 ∨ v = 2 ∨ v = 3 := by omega
  · (repeat (first | refine Spl.t rfl ?_ | refine Spl.f rfl ?_))
    refine IdxP.of _ (by decide) rfl ?_
    refine OpJ.callV a1 (fun _ _ => rfl) rfl rfl rfl ?_
    (repeat (first | refine Spl.t rfl ?_ | refine Spl.f rfl ?_))
    exact ⟨1, by decide, by decide, (by repeat' (first | exact trivial | exact rfl | refine And.intro ?_ ?_)), (by repeat' (first | exact trivial | exact rfl | refine And.intro ?_ ?_)), (by repeat' (first | exact trivial | exact rfl | refine And.intro ?_ ?_)), (by repeat' (first | exact trivial | exact rfl | refine And.intro ?_ ?_))⟩
  · (repeat (first | refine Spl.t rfl ?_ | refine Spl.f rfl ?_))
    refine IdxP.of _ (by decide) rfl ?_
    refine OpJ.callV a2 (fun _ _ => rfl) rfl rfl rfl ?_
    (repeat (first | refine Spl.t rfl ?_ | refine Spl.f rfl ?_))
    exact ⟨2, by decide, by decide, (by repeat' (first | exact trivial | exact rfl | refine And.intro ?_ ?_)), (by repeat' (first | exact trivial | exact rfl | refine And.intro ?_ ?_)), (by repeat' (first | exact trivial | exact rfl | refine And.intro ?_ ?_)), (by repeat' (first | exact trivial | exact rfl | refine And.intro ?_ ?_))⟩
  · (repeat (first | refine Spl.t rfl ?_ | refine Spl.f rfl ?_))
    refine IdxP.of _ (by decide) rfl ?_
    refine OpJ.callV a3 (fun _ _ => rfl) rfl rfl rfl ?_
    (repeat (first | refine Spl.t rfl ?_ | refine Spl.f rfl ?_))
    exact ⟨3, by decide, by decide, (by repeat' (first | exact trivial | exact rfl | refine And.intro ?_ ?_)), (by repeat' (first | exact trivial | exact rfl | refine And.intro ?_ ?_)), (by repeat' (first | exact trivial | exact rfl | refine And.intro ?_ ?_)), (by repeat' (first | exact trivial | exact rfl | refine And.intro ?_ ?_))⟩
  · (repeat (first | refine Spl.t rfl ?_ | refine Spl.f rfl ?_))
    (first | refine Sq.go ?_ | refine vL_nil (Sq.go ?_) | skip)
    (try refine WJ.cut ?_)
    refine OpJ.callV Awake3_c (fun _ _ => rfl) rfl rfl rfl ?_
    (repeat (first | refine Spl.t rfl ?_ | refine Spl.f rfl ?_))
    refine OpJ.callV Awake4_c (fun _ _ => rfl) rfl rfl rfl ?_
    (repeat (first | refine Spl.t rfl ?_ | refine Spl.f rfl ?_))
    refine OpJ.callV Awake5_c (fun _ _ => rfl) rfl rfl rfl ?_
    (repeat (first | refine Spl.t rfl ?_ | refine Spl.f rfl ?_))
    refine OpJ.callV tx (fun _ _ => rfl) rfl rfl rfl ?_
    (repeat (first | refine Spl.t rfl ?_ | refine Spl.f rfl ?_))
    (first | refine Sq.go ?_ | refine vL_nil (Sq.go ?_) | skip)
    (try refine vc_sound _ _ _ _ ?_)
    exact FinP.open rfl rfl
end Go.Proofs.E
end
section
open Go Go.Gv
attribute [local irreducible] Go.Gv.WJ Go.Gv.OpJ Go.Gv.QJ Go.Gv.Spl Go.Gv.Req Go.Gv.IdxP Go.Gv.RegP Go.Gv.FinP Go.Gv.CellP Go.Gv.CellsP Go.Gv.ArrP Go.Gv.ArrsP Go.Gv.DropP Go.Gv.ByteP Go.Gv.StoreP
set_option maxRecDepth 100000
namespace Go.Proofs.E
end Go.Proofs.E
end
section
open Go Go.Gv
attribute [local irreducible] Go.Gv.WJ Go.Gv.OpJ Go.Gv.QJ Go.Gv.Spl Go.Gv.Req Go.Gv.IdxP Go.Gv.RegP Go.Gv.FinP Go.Gv.CellP Go.Gv.CellsP Go.Gv.ArrP Go.Gv.ArrsP Go.Gv.DropP Go.Gv.ByteP Go.Gv.StoreP
set_option maxRecDepth 100000
namespace Go.Proofs.E
end Go.Proofs.E
end
section
open Go Go.Gv
attribute [local irreducible] Go.Gv.WJ Go.Gv.OpJ Go.Gv.QJ Go.Gv.Spl Go.Gv.Req Go.Gv.IdxP Go.Gv.RegP Go.Gv.FinP Go.Gv.CellP Go.Gv.CellsP Go.Gv.ArrP Go.Gv.ArrsP Go.Gv.DropP Go.Gv.ByteP Go.Gv.StoreP
set_option maxRecDepth 100000
namespace Go.Proofs.E
end Go.Proofs.E
end
section
open Go Go.Gv
attribute [local irreducible] Go.Gv.WJ Go.Gv.OpJ Go.Gv.QJ Go.Gv.Spl Go.Gv.Req Go.Gv.IdxP Go.Gv.RegP Go.Gv.FinP Go.Gv.CellP Go.Gv.CellsP Go.Gv.ArrP Go.Gv.ArrsP Go.Gv.DropP Go.Gv.ByteP Go.Gv.StoreP
set_option maxRecDepth 100000
namespace Go.Proofs.E
end Go.Proofs.E
end
section
namespace Go.Gv
open Go.RowKit
section cut
variable {X : Cx} {d : Option Nat} {ty : TypeId} {pos : String} {aft : Array Edge} {g : Option (Nat × Bool)} {t : T} {σ : Sg} {K : T → Sg → Prop}
/-- The rows that an operand holds, as they can be copied. -/
structure Flat (X : Cx) (H : HF) (w : World) (u : Value) (k : Nat) (ys : List (List D)) (vs : List Value) : Prop where
  fc : ∀ w' : World, w'.heap = w.heap → (Builtin.firstCells k ys.length u).run X.P w' = .ok vs.toArray w'
  ln : ∀ w' : World, (Builtin.lenOf u).run X.P w' = .ok ys.length w'
  vl : vs.length = ys.length * k
  yk : ∀ cs, cs ∈ ys → cs.length = k
  rp : ∀ (j l : Nat) (cs : List D) (a : D) (u : Value), ys[j]? = some cs → cs[l]? = some a → vs[j * k + l]? = some u → RepD H a u
def FlatQ (X : Cx) (t : T) (σ : Sg) (y : Operand) (k : Nat) (ys : List (List D)) : Prop := ∀ γ H (a : Act) w, (∀ v, ge t y = some v → Rep γ H v (a.eval y)) → Mem X.w0 X.H0 X.B γ H σ w → ∃ vs, Flat X H w (a.eval y) k ys vs
theorem FlatQ.suf {y : Operand} {i k l n : Nat} {xs : List (List D)} (hy : ge t y = some (.suf i k l n)) (hi : look i σ = some (.arr k xs)) (hl : l + n ≤ xs.length) : FlatQ X t σ y k ((xs.drop l).take n) := by
  intro γ H a w so sm
  have hr := so _ hy
  generalize hq : a.eval y = q at hr
  cases hr with
  | suf _ _ _ _ A hn hA =>
  obtain ⟨hle, hxk, hreal⟩ := sm.ent i _ hi
  have hlen : ((xs.drop l).take n).length = n := by simp; omega
  have hget : ∀ j cs, ((xs.drop l).take n)[j]? = some cs → xs[l + j]? = some cs ∧ j < n := fun j cs hj => by
    rw [List.getElem?_take] at hj
    split at hj
    · rw [List.getElem?_drop] at hj; exact ⟨hj, by assumption⟩
    · cases hj
  by_cases h0 : n = 0
  · subst h0
    refine ⟨[], fun w' _ => ?_, fun w' => ?_, by simp, fun cs hcs => by simp at hcs, fun j l' cs a' u h => by simp at h⟩
    · rw [hlen]; cases A <;> simp [Builtin.firstCells, loadCells, loadCellsFrom]
    · rw [hlen]; exact lenOf_sl
  · have hA' := hA (by omega)
    subst hA'
    obtain ⟨tt, us, h3, h4, h5⟩ := hreal (by omega)
    have hfit : l * k + n * k ≤ us.length := by rw [h4, ← Nat.add_mul]; exact Nat.mul_le_mul_right _ hn
    refine ⟨(us.drop (l * k)).take (n * k), fun w' hw' => ?_, fun w' => ?_, ?_, fun cs hcs => hxk cs (List.mem_of_mem_drop (List.mem_of_mem_take hcs)), fun j l' cs a' u hj hl' hu => ?_⟩
    · rw [hlen]
      have := load_cells (P := X.P) (w := w') (b := (γ i).b) (vs := fun p => us.getD (l * k + p) undef) (n * k) (l * k) 0 #[] (fun p hp => by
        have h6 : w'.heap[(γ i).b]? = some (.cells us.toArray tt (0, 0)) := by rw [hw']; exact h3
        rw [cell_of_block h6]
        simp [List.getElem?_eq_getElem (show l * k + p < us.length by omega)])
      simp only [Builtin.firstCells, loadCells]
      rw [this]
      congr 1
      apply Array.toList_inj.1
      simp only [List.nil_append, List.append_toArray, List.toList_toArray, Array.toList_append]
      apply List.ext_getElem?
      intro p
      simp only [List.getElem?_map, List.getElem?_take, List.getElem?_drop]
      by_cases hp : p < n * k
      · rw [if_pos hp, List.getElem?_range' (by omega)]
        simp [List.getElem?_eq_getElem (show l * k + p < us.length by omega)]
      · rw [if_neg hp, List.getElem?_eq_none (by simp; omega)]; rfl
    · rw [hlen]; exact lenOf_sl
    · rw [List.length_take, List.length_drop, hlen]; omega
    · obtain ⟨h6, h7⟩ := hget j cs hj
      rw [List.getElem?_take] at hu
      split at hu
      · rw [List.getElem?_drop] at hu
        refine h5 (l + j) l' cs a' u h6 hl' ?_
        rw [Nat.add_mul, Nat.add_assoc]; exact hu
      · cases hu
/-- What is data can be copied. -/
theorem FlatQ.data {y : Operand} {k : Nat} {ys : List (List D)} {av : AV} (hy : ge t y = some av) (hel : elems av = some (k, ys)) : FlatQ X t σ y k ys := by
  intro γ H a w so sm
  have hry := rep_elems (so _ hy) hel
  obtain ⟨hyk, hylen⟩ := repd_sl_len hry
  obtain ⟨B, cy, vs, hqy, hfc, hvl, hvone, hvrep⟩ := repd_flat (P := X.P) hry
  refine ⟨vs, fun w' hw' => hfc w' fun b o v h => ?_, fun w' => by rw [hqy]; exact lenOf_sl, hvl, hyk, hvrep⟩
  have := sm.hok.c b o v h
  simp only [World.cell?, hw'] at this ⊢; exact this
/-- append onto data that has no room, of what can be copied: given to all at once; it turns nothing that is there. -/
theorem QJ.appendG {x y : Operand} {st xt el : TypeId} {k bytes : Nat} {z : Value} {xs ys : List (List D)} {av0 : AV} (hx : ge t x = some av0) (hfu : FullIs av0 k xs) (hy : FlatQ X t σ y k ys)
    (hu : X.P.underlying st = some (.slice el)) (hxu : X.P.underlying xt = some (.slice el)) (hz : ∀ w, (sizeOf el).run X.P w = .ok k w) (hzv : ∀ w, (zeroValue el).run X.P w = .ok z w) (hzl : z.cells.size = k)
    (hb : ∀ w, ((fun i : TypeInfo => i.bytes) <$> typeInfo el).run X.P w = .ok bytes w) (hb0 : bytes ≠ 0) (hbytes : (3 * (xs.length + ys.length) + 4096) * bytes ≤ 281474976710656)
    (hm : xs.length + ys.length ≤ 9223372036854775807) :
    QJ X ⟨d, .call { callee := .builtin .append, args := #[x, y], argTypes := #[st, xt] }, ty, pos, aft, g⟩ t σ (.d (.sl k (xs ++ ys))) := by
  intro γ H a w hl so sm next Q' hk
  obtain ⟨A, hq, hrx⟩ := hfu.rep (so x (by simp [Op.operands, Call.operands]) _ hx)
  obtain ⟨hxk, _⟩ := repd_sl_len hrx
  obtain ⟨vs, hfv⟩ := hy γ H a w (fun v hv => so y (by simp [Op.operands, Call.operands]) v hv) sm
  obtain ⟨Bx, cx, us, hqx, hfx, hul, huone, hurep⟩ := repd_flat (P := X.P) hrx
  have hexec : ∀ r : Result Value, (Builtin.append_ #[st, xt] ty #[.slice A xs.length xs.length, a.eval y]).run X.P w = r → (execOp a.eval ⟨d, .call { callee := .builtin .append, args := #[x, y], argTypes := #[st, xt] }, ty, pos, aft, g⟩).run X.P w =
      r.andThen fun v w => .ok (.value v) w := fun r h => by
    simp only [execOp, resolve, invoke, builtin, List.map_toArray, List.map_cons, List.map_nil, Sem.run_bind, Sem.run_pure, Result.andThen_ok, hq, h]
  by_cases hroom : xs.length + ys.length ≤ xs.length
  · have hy0 : ys = [] := List.length_eq_zero_iff.1 (by omega)
    subst hy0
    have hrun := append_room (P := X.P) (w := w) (ty := ty) (A := A) (n := xs.length) (c := xs.length) hu hxu hz hfv.ln (hfv.fc w rfl) (Nat.le_refl _)
    have hv0 : vs = [] := List.length_eq_zero_iff.1 (by rw [hfv.vl]; simp)
    subst hv0
    have hrun' : (Builtin.append_ #[st, xt] ty #[.slice A xs.length xs.length, a.eval y]).run X.P w = .ok (.slice A xs.length xs.length) w := by
      rw [hrun]; cases A <;> simp [storeCells]
    rw [semAt_of (by simp), hexec _ hrun', Result.andThen_ok, Oper.uponIn_value]
    refine hk _ γ [] H w (sm.refl γ) (.d _ _ ?_)
    rw [List.append_nil]
    rw [hq] at hrx; exact hrx
  · have hus : ∀ w' : World, w'.heap = w.heap → (Builtin.firstCells k xs.length (.slice A xs.length xs.length)).run X.P w' = .ok us.toArray w' := fun w' hw' => by
      rw [← hq]
      exact hfx w' fun b o v h => by
        have := sm.hok.c b o v h
        simp only [World.cell?, hw'] at this ⊢; exact this
    obtain ⟨cap, hcap, hrun⟩ := append_grow (P := X.P) (w := w) (ty := ty) (A := A) (n := xs.length) (c := xs.length) (us := us) (vs := vs) hu hxu hz hzv hb hfv.ln hfv.fc hus (by omega) hbytes hb0
    rw [semAt_of (by simp), hexec _ hrun, Result.andThen_ok, Oper.uponIn_value]
    have hzc : (Builtin.zeroCells z.cells (cap - (xs.length + ys.length))).toList.length = (cap - (xs.length + ys.length)) * k := by
      simp [Builtin.zeroCells, hzl]
    have hm0 := sm.drew.new 0 (.arr k (xs ++ ys)) (.cells (us ++ vs ++ (Builtin.zeroCells z.cells (cap - (xs.length + ys.length))).toList).toArray el) cap
      ⟨by rw [upd_same, List.length_append]; exact hcap, fun cs hcs => by rcases List.mem_append.1 hcs with h | h; exact hxk cs h; exact hfv.yk cs h, fun _ => by
        rw [upd_same]
        refine ⟨el, _, World.alloc_heap_new _ _, ?_, ?_⟩
        · rw [List.length_append, List.length_append, hzc, hul, hfv.vl, ← Nat.add_mul, ← Nat.add_mul]
          congr 1
          show xs.length + ys.length + (cap - (xs.length + ys.length)) = cap
          omega
        · have hvl := hfv.vl
          refine arr_snoc hxk hfv.yk hurep hfv.rp (fun p hp => ?_) (fun p hp => ?_)
          · rw [List.append_assoc, List.getElem?_append_left (by omega)]
          · rw [List.append_assoc, List.getElem?_append_right (by omega), hul, show xs.length * k + p - xs.length * k = p from by omega, List.getElem?_append_left (by omega)]⟩ (fun _ _ h => by cases h)
    have hm' : Mem w H (fun _ => False) (upd γ 0 ⟨w.heap.size, cap, fun _ => False⟩) H [(0, .arr k (xs ++ ys))] (w.drew.alloc (.cells (us ++ vs ++ (Builtin.zeroCells z.cells (cap - (xs.length + ys.length))).toList).toArray el)) :=
      ⟨⟨hm0.keep.os, hm0.keep.tape, hm0.keep.output, hm0.keep.size, hm0.keep.block⟩, hm0.hle, ⟨hm0.hnew.c, hm0.hnew.m⟩, hm0.hok, hm0.ent, hm0.free, hm0.fresh, hm0.apart⟩
    have hl0 : look 0 ([(0, Ent.arr k (xs ++ ys))] : Sg) = some (.arr k (xs ++ ys)) := by rw [look_cons, if_pos rfl]
    obtain ⟨H', ok, hk2⟩ := hm'.pub hl0 rfl
    have hj := hm'.join (σr := []) hk2 (fun b hb => ⟨0, _, hl0, rfl, hb⟩) (Wk.nil _) (fun i e h => by cases h) (fun i e h => by cases h)
    refine hk _ _ _ H' _ hj (.d _ _ ?_)
    have h3 := ok (xs.length + ys.length) (some ⟨w.heap.size, 0, none⟩) (by simp) (by rw [upd_same]; exact hcap) (fun _ => by rw [upd_same]) hm
    rw [List.take_of_length_le (by simp), upd_same] at h3
    exact h3
theorem QJ.appG {x y : Operand} {st xt : TypeId} {k : Nat} {xs ys : List (List D)} {av0 : AV} (hx : ge t x = some av0) (hfu : FullIs av0 k xs) (hy : FlatQ X t σ y k ys) (hI : elInfo X.P st xt = some k) (hb : xs.length + ys.length ≤ 1000000000) :
    QJ X ⟨d, .call { callee := .builtin .append, args := #[x, y], argTypes := #[st, xt] }, ty, pos, aft, g⟩ t σ (.d (.sl k (xs ++ ys))) := by
  obtain ⟨el, z, bytes, h1, h2, h3, h4, h5, h6, h7, h8⟩ := elInfo_out hI
  exact QJ.appendG hx hfu hy h1 h2 h3 h4 h5 h6 h7 (bytes_fit hb h8) (by omega)
end cut
end Go.Gv
namespace Go.Gv
open Go.RowKit
/-! ### A call that reads a private row, and hands back rows of another kind -/
def HF.cut (H : HF) (b : Nat) : HF := ⟨fun c o => if c = b then none else H.c c o, fun c => if c = b then none else H.m c⟩
/-- An argument, as a reader of the row i takes it. -/
inductive Rd (i k n : Nat) (xs : List (List D)) : List AV → List AV → Prop where
  | nil : Rd i k n xs [] []
  | same (a : AV) {l m : List AV} (h : a.open = true) (r : Rd i k n xs l m) : Rd i k n xs (a :: l) (a :: m)
  | row {l m : List AV} (r : Rd i k n xs l m) : Rd i k n xs (.arr i k n :: l) (.d (.sl k xs) :: m)
theorem Rd.get {i k n : Nat} {xs : List (List D)} {l m : List AV} (h : Rd i k n xs l m) : l.length = m.length ∧ ∀ (j : Nat) (b : AV), m[j]? = some b → ∃ a, l[j]? = some a ∧ ((a = b ∧ a.open = true) ∨ (a = .arr i k n ∧ b = .d (.sl k xs))) := by
  induction h with
  | nil => exact ⟨rfl, fun j b h => by simp at h⟩
  | same a ho _ ih =>
    refine ⟨by simp [ih.1], fun j b hb => ?_⟩
    cases j with
    | zero => simp at hb; exact ⟨a, rfl, .inl ⟨hb, ho⟩⟩
    | succ j => exact ih.2 j b (by simpa using hb)
  | row _ ih =>
    refine ⟨by simp [ih.1], fun j b hb => ?_⟩
    cases j with
    | zero => simp at hb; exact ⟨_, rfl, .inr ⟨rfl, hb.symm⟩⟩
    | succ j => exact ih.2 j b (by simpa using hb)
end Go.Gv
namespace Go.Gv
open Go.RowKit
section nilsl
variable {X : Cx} {d : Option Nat} {ty : TypeId} {pos : String} {aft : Array Edge} {g : Option (Nat × Bool)} {t : T} {σ : Sg} {K : T → Sg → Prop}
theorem eqn_slice' {P : Program} {tt e : TypeId} {w : World} (n : Nat) {A : Option Addr} {a b : Nat} (hu : P.underlying tt = some (.slice e)) : (Op.equalIn (n + 1) tt (.slice A a b) (.slice none 0 0)).run P w = .ok A.isNone w := by cases A <;> simp [Op.equalIn, underlying, hu]
/-- Is a slice nil? One that is not empty isn't. -/
theorem O.eqNil {x y : Operand} {ot yt e : TypeId} {k : Nat} {xs : List (List D)} (hx : ge t x = some (.d (.sl k xs))) (hy : ge t y = some (.d (.v (.slice none 0 0)))) (hu : X.P.underlying ot = some (.slice e)) (hN : dOk d X.N = true)
    (kk : ∀ b : Bool, (b = true → xs = []) → K (putT d (.d (.v (.bool b))) t) σ) : OpJ X ⟨d, .binOp .eql ot x y yt, ty, pos, aft, g⟩ t σ K := by
  intro γ H a w s next Q' hk
  have hr := rep_d (ge_sound s.tmp hx)
  have e2 := rep_v (ge_sound s.tmp hy)
  generalize hq : a.eval x = q at hr
  cases hr with
  | sl _ _ A c b o us hkk hn hc hA hH hrr =>
  have hexec : (execOp a.eval ⟨d, .binOp .eql ot x y yt, ty, pos, aft, g⟩).run X.P w = .ok (.value (.bool A.isNone)) w := by
    have h9 : (Op.equal ot (.slice A xs.length c) (.slice none 0 0)).run X.P w = .ok A.isNone w := equal_at.trans (eqn_slice' 9999 hu)
    simp [execOp, hq, e2, eqGuard, binOp, h9]
  rw [semAt_of (by simp), hexec, Oper.uponIn_value]
  refine hk γ H _ _ _ w (s.calm (d := d) (V := .d (.v (.bool A.isNone))) (s.mem.refl γ) hN (.d _ _ (.v _ rfl))) (kk _ fun hb => ?_)
  rcases Nat.eq_zero_or_pos xs.length with h | h
  · exact List.length_eq_zero_iff.1 h
  · rw [hA h] at hb; cases hb
end nilsl
/-- A contract, its arguments told otherwise. -/
theorem Ct.view {Λ : Amb} {P : Program} {f : FuncId} {avs bvs : List AV} {σ : Sg} {Q : AV → Sg → Prop} (h : Ct Λ P f avs σ Q) (hl : bvs.length = avs.length)
    (hv : ∀ (j : Nat) (a b : AV), avs[j]? = some a → bvs[j]? = some b → ∀ γ H u, Rep γ H b u → Rep γ H a u) : Ct Λ P f bvs σ Q :=
  fun ro γ H w vs h1 h2 h3 h4 => h ro γ H w vs h1 h2 (h3.trans hl) fun j a u ha hu => by
    have hj : j < bvs.length := by rw [hl]; exact (List.getElem?_eq_some_iff.1 ha).1
    exact hv j a bvs[j] ha (by simp [hj]) γ H u (h4 j bvs[j] u (by simp [hj]) hu)
end Go.Gv
namespace Go.Gv
open Go.RowKit
section birth
variable {X : Cx} {d : Option Nat} {ty : TypeId} {pos : String} {aft : Array Edge} {g : Option (Nat × Bool)} {t : T} {σ : Sg}
/-- append onto data that has no room: the birth of a private row. -/
theorem B.appendF {i : Nat} {x y : Operand} {st xt el : TypeId} {k bytes : Nat} {z : Value} {xs ys : List (List D)} {av0 : AV} (hx : ge t x = some av0) (hfu : FullIs av0 k xs) (hy : FlatQ X t σ y k ys)
    (hu : X.P.underlying st = some (.slice el)) (hxu : X.P.underlying xt = some (.slice el)) (hz : ∀ w, (sizeOf el).run X.P w = .ok k w) (hzv : ∀ w, (zeroValue el).run X.P w = .ok z w) (hzl : z.cells.size = k)
    (hb : ∀ w, ((fun i : TypeInfo => i.bytes) <$> typeInfo el).run X.P w = .ok bytes w) (hb0 : bytes ≠ 0) (hbytes : (3 * (xs.length + ys.length) + 4096) * bytes ≤ 281474976710656) (hne : ys ≠ [] ∨ xs = []) :
    BirthJ X ⟨d, .call { callee := .builtin .append, args := #[x, y], argTypes := #[st, xt] }, ty, pos, aft, g⟩ t σ i (.arr i k (xs.length + ys.length)) (.arr k (xs ++ ys)) := by
  intro γ H a w so sm
  obtain ⟨A, hq, hrx⟩ := hfu.rep (so x (by simp [Op.operands, Call.operands]) _ hx)
  obtain ⟨hxk, _⟩ := repd_sl_len hrx
  obtain ⟨vs, hfv⟩ := hy γ H a w (fun v hv => so y (by simp [Op.operands, Call.operands]) v hv) sm
  obtain ⟨Bx, cx, us, hqx, hfx, hul, huone, hurep⟩ := repd_flat (P := X.P) hrx
  have hexec : ∀ (v : Value) (w' : World), (Builtin.append_ #[st, xt] ty #[.slice A xs.length xs.length, a.eval y]).run X.P w = .ok v w' → ((⟨d, .call { callee := .builtin .append, args := #[x, y], argTypes := #[st, xt] }, ty, pos, aft, g⟩ : Oper).semAt X.ro a.eval).run X.P w = .ok (.value v) w' := fun v w' h => by
    rw [semAt_of (by simp)]
    simp only [execOp, resolve, invoke, builtin, List.map_toArray, List.map_cons, List.map_nil, Sem.run_bind, Sem.run_pure, Result.andThen_ok, hq, h]
  by_cases hroom : xs.length + ys.length ≤ xs.length
  · have hy0 : ys = [] := List.length_eq_zero_iff.1 (by omega)
    have hx0 : xs = [] := by rcases hne with h | h; exact absurd hy0 h; exact h
    subst hx0; subst hy0
    have hrun := append_room (P := X.P) (w := w) (ty := ty) (A := A) (n := 0) (c := 0) hu hxu hz hfv.ln (hfv.fc w rfl) (Nat.le_refl _)
    have hv0 : vs = [] := List.length_eq_zero_iff.1 (by rw [hfv.vl]; simp)
    subst hv0
    have hrun' : (Builtin.append_ #[st, xt] ty #[.slice A ([] : List (List D)).length ([] : List (List D)).length, a.eval y]).run X.P w = .ok (.slice A 0 0) w := by
      simp only [List.length_nil] at hrun ⊢
      rw [hrun]; cases A <;> simp [storeCells]
    refine ⟨_, 0, w, hexec _ _ hrun', mem_arr0 sm.hok γ i k, ?_⟩
    have := Rep.arr (γ := upd γ i ⟨w.heap.size, 0, fun _ => False⟩) (H := H) i k 0 A
    rw [upd_same] at this
    exact this (Nat.zero_le _) (fun h => by simp at h)
  · have hus : ∀ w' : World, w'.heap = w.heap → (Builtin.firstCells k xs.length (.slice A xs.length xs.length)).run X.P w' = .ok us.toArray w' := fun w' hw' => by
      rw [← hq]
      exact hfx w' fun b o v h => by
        have := sm.hok.c b o v h
        simp only [World.cell?, hw'] at this ⊢; exact this
    obtain ⟨cap, hcap, hrun⟩ := append_grow (P := X.P) (w := w) (ty := ty) (A := A) (n := xs.length) (c := xs.length) (us := us) (vs := vs) hu hxu hz hzv hb hfv.ln hfv.fc hus (by omega) hbytes hb0
    have hzc : (Builtin.zeroCells z.cells (cap - (xs.length + ys.length))).toList.length = (cap - (xs.length + ys.length)) * k := by
      simp [Builtin.zeroCells, hzl]
    have hm0 := sm.drew.new i (.arr k (xs ++ ys)) (.cells (us ++ vs ++ (Builtin.zeroCells z.cells (cap - (xs.length + ys.length))).toList).toArray el) cap
      ⟨by rw [upd_same, List.length_append]; exact hcap, fun cs hcs => by rcases List.mem_append.1 hcs with h | h; exact hxk cs h; exact hfv.yk cs h, fun _ => by
        rw [upd_same]
        refine ⟨el, _, World.alloc_heap_new _ _, ?_, ?_⟩
        · rw [List.length_append, List.length_append, hzc, hul, hfv.vl, ← Nat.add_mul, ← Nat.add_mul]
          congr 1
          show xs.length + ys.length + (cap - (xs.length + ys.length)) = cap
          omega
        · have hvl := hfv.vl
          refine arr_snoc hxk hfv.yk hurep hfv.rp (fun p hp => ?_) (fun p hp => ?_)
          · rw [List.append_assoc, List.getElem?_append_left (by omega)]
          · rw [List.append_assoc, List.getElem?_append_right (by omega), hul, show xs.length * k + p - xs.length * k = p from by omega, List.getElem?_append_left (by omega)]⟩ (fun _ _ h => by cases h)
    have hm' : Mem w H (fun _ => False) (upd γ i ⟨w.heap.size, cap, fun _ => False⟩) H [(i, .arr k (xs ++ ys))] (w.drew.alloc (.cells (us ++ vs ++ (Builtin.zeroCells z.cells (cap - (xs.length + ys.length))).toList).toArray el)) :=
      ⟨⟨hm0.keep.os, hm0.keep.tape, hm0.keep.output, hm0.keep.size, hm0.keep.block⟩, hm0.hle, ⟨hm0.hnew.c, hm0.hnew.m⟩, hm0.hok, hm0.ent, hm0.free, hm0.fresh, hm0.apart⟩
    refine ⟨_, cap, _, hexec _ _ hrun, hm', ?_⟩
    have := Rep.arr (γ := upd γ i ⟨w.heap.size, cap, fun _ => False⟩) (H := H) i k (xs.length + ys.length) (some ⟨w.heap.size, 0, none⟩)
    rw [upd_same] at this
    exact this hcap (fun _ => rfl)
theorem B.appF {i : Nat} {x y : Operand} {st xt : TypeId} {k : Nat} {xs ys : List (List D)} {av0 : AV} (hx : ge t x = some av0) (hfu : FullIs av0 k xs) (hy : FlatQ X t σ y k ys) (hI : elInfo X.P st xt = some k) (hb : xs.length + ys.length ≤ 1000000000) (hne : ys ≠ [] ∨ xs = []) :
    BirthJ X ⟨d, .call { callee := .builtin .append, args := #[x, y], argTypes := #[st, xt] }, ty, pos, aft, g⟩ t σ i (.arr i k (xs.length + ys.length)) (.arr k (xs ++ ys)) := by
  obtain ⟨el, z, bytes, h1, h2, h3, h4, h5, h6, h7, h8⟩ := elInfo_out hI
  exact B.appendF hx hfu hy h1 h2 h3 h4 h5 h6 h7 (bytes_fit hb h8) hne
end birth
end Go.Gv
end
section
open Go Go.Gv
attribute [local irreducible] Go.Gv.WJ Go.Gv.OpJ Go.Gv.QJ Go.Gv.Spl Go.Gv.Req Go.Gv.IdxP Go.Gv.RegP Go.Gv.FinP Go.Gv.CellP Go.Gv.CellsP Go.Gv.ArrP Go.Gv.ArrsP Go.Gv.DropP Go.Gv.ByteP Go.Gv.StoreP
set_option maxRecDepth 100000
namespace Go.Proofs.E
end Go.Proofs.E
end
section
open Go Go.Gv
attribute [local irreducible] Go.Gv.WJ Go.Gv.OpJ Go.Gv.QJ Go.Gv.Spl Go.Gv.Req Go.Gv.IdxP Go.Gv.RegP Go.Gv.FinP Go.Gv.CellP Go.Gv.CellsP Go.Gv.ArrP Go.Gv.ArrsP Go.Gv.DropP Go.Gv.ByteP Go.Gv.StoreP
set_option maxRecDepth 100000
namespace Go.Proofs.E
attribute [local irreducible] elems
end Go.Proofs.E
end
section
open Go Go.Gv
attribute [local irreducible] Go.Gv.WJ Go.Gv.OpJ Go.Gv.QJ Go.Gv.Spl Go.Gv.Req Go.Gv.IdxP Go.Gv.RegP Go.Gv.FinP Go.Gv.CellP Go.Gv.CellsP Go.Gv.ArrP Go.Gv.ArrsP Go.Gv.DropP Go.Gv.ByteP Go.Gv.StoreP
set_option maxRecDepth 100000
namespace Go.Proofs.E
attribute [local irreducible] elems
end Go.Proofs.E
end
section
open Go Go.Gv
attribute [local irreducible] Go.Gv.WJ Go.Gv.OpJ Go.Gv.QJ Go.Gv.Spl Go.Gv.Req Go.Gv.IdxP Go.Gv.RegP Go.Gv.FinP Go.Gv.CellP Go.Gv.CellsP Go.Gv.ArrP Go.Gv.ArrsP Go.Gv.DropP Go.Gv.ByteP Go.Gv.StoreP
set_option maxRecDepth 100000
namespace Go.Proofs.E
attribute [local irreducible] elems
end Go.Proofs.E
end
section
open Go Go.Gv
attribute [local irreducible] Go.Gv.WJ Go.Gv.OpJ Go.Gv.QJ Go.Gv.Spl Go.Gv.Req Go.Gv.IdxP Go.Gv.RegP Go.Gv.FinP Go.Gv.CellP Go.Gv.CellsP Go.Gv.ArrP Go.Gv.ArrsP Go.Gv.DropP Go.Gv.ByteP Go.Gv.StoreP
set_option maxRecDepth 100000
namespace Go.Proofs.E
attribute [local irreducible] elems
abbrev rmv (R : List OP) : AV := .agg [.d (.sl 6 (R.map opD))]
def dupR (R : List OP) (o : OP) : Bool := R.any fun x => decide (x = o)
def clashR (R : List OP) (o : OP) : Bool := R.any fun x => decide (x.k = 0 ∧ o.k = 0 ∧ x.i = o.i)
def addE (R : List OP) (o : OP) : Int := if checkO o ≠ 0 then checkO o else if dupR R o = true then 4 else if clashR R o = true then 5 else if 16 ≤ R.length then 7 else 0
def addR (R : List OP) (o : OP) : List OP := if addE R o = 0 then R ++ [o] else R
def nextIx (l : List OP) : List OP → Int
  | [] => -1
  | o :: r => if wrongO l o ≠ 6 then 0 else (if nextIx l r < 0 then -1 else nextIx l r + 1)
def OP0 : OP := ⟨0, ⟨0, 0⟩, ⟨0, 0⟩, 0⟩
def nextR (l R : List OP) : List OP := if nextIx l R < 0 then R else R.take (nextIx l R).toNat ++ R.drop ((nextIx l R).toNat + 1)
def nextO (l R : List OP) : OP := if nextIx l R < 0 then OP0 else R.getD (nextIx l R).toNat OP0
def topR (R : List OP) : Int := R.foldl (fun n o => if o.i.c > n then o.i.c else n) 0
theorem RLen_c (R : List OP) : Cv 250 [rmv R] (iv R.length) := by
  refine Ct.of_vc Tryz.f250 Tryz.func250 rfl rfl fun w H B g0 => ?_
  refine FinP.open rfl (congrArg iv ?_)
  rw [List.length_map]
theorem top_snoc (R : List OP) (o : OP) : topR (R ++ [o]) = if o.i.c > topR R then o.i.c else topR R := by unfold topR; rw [List.foldl_append]; rfl
theorem Top_c (R : List OP) (hR : R.length ≤ 1000000) : Cv 237 [rmv R] (iv (topR R)) := by
  refine Ct.of_vc Tryz.f237 Tryz.func237 rfl rfl fun w H B g0 => ?_
  refine WJ.loopK (V := Nat) (fun i => [(9, iv i), (3, iv (topR (R.take i)))]) (fun _ => []) [] (fun i => R.length - i) (fun i => i ≤ R.length) 0 (by omega) (by repeat' (first | exact trivial | exact rfl | refine And.intro ?_ ?_)) (by repeat' (first | exact trivial | exact rfl | refine And.intro ?_ ?_)) ?_
  intro i hi
  refine Spl.of (fun h1 => ?_) (fun h1 => ?_)
  · have hlt : i < R.length := by have := of_decide_eq_true h1; simp at this; omega
    have hx : R[i]? = some R[i] := by simp
    have hsn := take_snoc hx
    have htp := top_snoc (R.take i) R[i]
    rw [← hsn] at htp
    (repeat (first | refine Spl.t rfl ?_ | refine Spl.f rfl ?_))
    refine IdxP.of (opD R[i]) (by omega) (by simp [hx]) ?_
    exact ⟨i + 1, by omega, by omega, ⟨some_iv (wrap_id _ (by omega) (by omega)), some_iv htp.symm, trivial⟩, (by repeat' (first | exact trivial | exact rfl | refine And.intro ?_ ?_)), (by repeat' (first | exact trivial | exact rfl | refine And.intro ?_ ?_)), (by repeat' (first | exact trivial | exact rfl | refine And.intro ?_ ?_))⟩
  · have h1 := of_decide_eq_false h1
    simp at h1
    (repeat (first | refine Spl.t rfl ?_ | refine Spl.f rfl ?_))
    exact FinP.open rfl (congrArg iv (by rw [List.take_of_length_le (by omega)]))
theorem dup_snoc (R : List OP) (x o : OP) : dupR (R ++ [x]) o = (dupR R o || decide (x = o)) := by unfold dupR; rw [List.any_append]; simp
theorem clash_snoc (R : List OP) (x o : OP) : clashR (R ++ [x]) o = (clashR R o || decide (x.k = 0 ∧ o.k = 0 ∧ x.i = o.i)) := by unfold clashR; rw [List.any_append]; simp
theorem dup_at {R : List OP} {o : OP} {i : Nat} (h : R[i]? = some o) : dupR R o = true := List.any_eq_true.2 ⟨o, List.mem_of_getElem? h, by simp⟩
theorem take_all6 (R : List OP) (o : OP) : List.drop (Int.toNat 0) (List.take ((R.map opD).length : Int).toNat (R.map opD)) ++ [opD o] = (R ++ [o]).map opD := by
  rw [Int.toNat_natCast, List.take_length, List.map_append]; rfl
theorem Add_c (R : List OP) (o : OP) (hR : R.length ≤ 1000000) : Cv 243 [rmv R, opv o] (.tup [rmv (addR R o), iv (addE R o)]) := by
  refine Ct.of_wv Tryz.f243 Tryz.func243 rfl rfl fun w H B g0 => ?_
  (try refine WJ.cut ?_)
  (first | refine Sq.go ?_ | refine vL_nil (Sq.go ?_) | skip)
  (try refine WJ.cut ?_)
  refine OpJ.callV (Check5_c o) (fun _ _ => rfl) rfl rfl rfl ?_
  (first | refine Sq.go ?_ | refine vL_nil (Sq.go ?_) | skip)
  (try refine WJ.cut ?_)
  refine Spl.of (fun h1 => ?_) (fun h1 => ?_)
  · have h1 : checkO o ≠ 0 := by simpa using h1
    have hE : addE R o = checkO o := by unfold addE; rw [if_pos h1]
    (repeat (first | refine Spl.t rfl ?_ | refine Spl.f rfl ?_))
    refine .out (by simp) ?_
    refine FinP.open rfl ?_
    unfold addR
    rw [hE, if_neg h1]; rfl
  have h1 : checkO o = 0 := by simpa using h1
  have hE : addE R o = if dupR R o = true then 4 else if clashR R o = true then 5 else if 16 ≤ R.length then 7 else 0 := by unfold addE; rw [if_neg (fun e => e h1)]
  (first | refine Sq.go ?_ | refine vL_nil (Sq.go ?_) | skip)
  (try refine WJ.cut ?_)
  (first | refine Sq.go ?_ | refine vL_nil (Sq.go ?_) | skip)
  (try refine WJ.cut ?_)
  refine WJ.loopK (V := Nat) (fun i => [(20, iv i), (7, bv (clashR (R.take i) o))]) (fun _ => []) [] (fun i => R.length - i) (fun i => i ≤ R.length ∧ dupR (R.take i) o = false) 0 ⟨by omega, rfl⟩ (by repeat' (first | exact trivial | exact rfl | refine And.intro ?_ ?_)) (by repeat' (first | exact trivial | exact rfl | refine And.intro ?_ ?_)) ?_
  rintro i ⟨hi, hdup⟩
  refine Spl.of (fun h2 => ?_) (fun h2 => ?_)
  · have hlt : i < R.length := by have := of_decide_eq_true h2; simp at this; omega
    have hx : R[i]? = some R[i] := by simp
    have hsn := take_snoc hx
    have hds := dup_snoc (R.take i) R[i] o
    have hcs := clash_snoc (R.take i) R[i] o
    rw [← hsn] at hds hcs
    generalize R[i] = x at hx hds hcs
    (repeat (first | refine Spl.t rfl ?_ | refine Spl.f rfl ?_))
    refine IdxP.of (opD x) (by omega) (by simp [hx]) ?_
    (repeat (first | refine Spl.t rfl ?_ | refine Spl.f rfl ?_))
    refine OpJ.qu (O.eqT 4 rfl rfl rfl rfl rfl eqO_ok eqO_g (eqO x o)) rfl ?_
    refine Spl.of (fun h3 => ?_) (fun h3 => ?_)
    · have h3 : x = o := of_decide_eq_true h3
      rw [h3] at hx
      have hd := dup_at hx
      rw [if_pos hd] at hE
      (repeat (first | refine Spl.t rfl ?_ | refine Spl.f rfl ?_))
      refine .out (by simp) ?_
      refine FinP.open rfl ?_
      unfold addR
      rw [hE]; rfl
    · have h3 : ¬ x = o := of_decide_eq_false h3
      rw [hdup, decide_eq_false h3] at hds
      refine Spl.of (fun h4 => ?_) (fun h4 => ?_)
      · rw [h4, Bool.true_or] at hcs
        (repeat (first | refine Spl.t rfl ?_ | refine Spl.f rfl ?_))
        exact ⟨i + 1, ⟨by omega, hds⟩, by omega, ⟨some_iv (wrap_id _ (by omega) (by omega)), some_bv hcs.symm, trivial⟩, (by repeat' (first | exact trivial | exact rfl | refine And.intro ?_ ?_)), (by repeat' (first | exact trivial | exact rfl | refine And.intro ?_ ?_)), (by repeat' (first | exact trivial | exact rfl | refine And.intro ?_ ?_))⟩
      · rw [h4, Bool.false_or] at hcs
        (repeat (first | refine Spl.t rfl ?_ | refine Spl.f rfl ?_))
        refine Spl.of (fun h5 => ?_) (fun h5 => ?_)
        · have h5 : x.k = 0 := of_decide_eq_true h5
          (repeat (first | refine Spl.t rfl ?_ | refine Spl.f rfl ?_))
          refine Spl.of (fun h6 => ?_) (fun h6 => ?_)
          · have h6 : o.k = 0 := of_decide_eq_true h6
            have e : decide (x.k = 0 ∧ o.k = 0 ∧ x.i = o.i) = decide (x.i = o.i) := decide_eq_decide.2 ⟨fun h => h.2.2, fun h => ⟨h5, h6, h⟩⟩
            rw [e] at hcs
            (repeat (first | refine Spl.t rfl ?_ | refine Spl.f rfl ?_))
            refine OpJ.qu (O.eqT 3 rfl rfl rfl rfl rfl eqI_ok eqI_g (eqI x.i o.i)) rfl ?_
            (repeat (first | refine Spl.t rfl ?_ | refine Spl.f rfl ?_))
            exact ⟨i + 1, ⟨by omega, hds⟩, by omega, ⟨some_iv (wrap_id _ (by omega) (by omega)), some_bv hcs.symm, trivial⟩, (by repeat' (first | exact trivial | exact rfl | refine And.intro ?_ ?_)), (by repeat' (first | exact trivial | exact rfl | refine And.intro ?_ ?_)), (by repeat' (first | exact trivial | exact rfl | refine And.intro ?_ ?_))⟩
          · have h6 : ¬ o.k = 0 := of_decide_eq_false h6
            rw [decide_eq_false (fun h => h6 h.2.1)] at hcs
            (repeat (first | refine Spl.t rfl ?_ | refine Spl.f rfl ?_))
            exact ⟨i + 1, ⟨by omega, hds⟩, by omega, ⟨some_iv (wrap_id _ (by omega) (by omega)), some_bv hcs.symm, trivial⟩, (by repeat' (first | exact trivial | exact rfl | refine And.intro ?_ ?_)), (by repeat' (first | exact trivial | exact rfl | refine And.intro ?_ ?_)), (by repeat' (first | exact trivial | exact rfl | refine And.intro ?_ ?_))⟩
        · have h5 : ¬ x.k = 0 := of_decide_eq_false h5
          rw [decide_eq_false (fun h => h5 h.1)] at hcs
          (repeat (first | refine Spl.t rfl ?_ | refine Spl.f rfl ?_))
          exact ⟨i + 1, ⟨by omega, hds⟩, by omega, ⟨some_iv (wrap_id _ (by omega) (by omega)), some_bv hcs.symm, trivial⟩, (by repeat' (first | exact trivial | exact rfl | refine And.intro ?_ ?_)), (by repeat' (first | exact trivial | exact rfl | refine And.intro ?_ ?_)), (by repeat' (first | exact trivial | exact rfl | refine And.intro ?_ ?_))⟩
  · have h2 := of_decide_eq_false h2
    simp at h2
    have hall : R.take i = R := List.take_of_length_le (by omega)
    rw [hall] at hdup ⊢
    rw [hdup, if_neg (by decide)] at hE
    (repeat (first | refine Spl.t rfl ?_ | refine Spl.f rfl ?_))
    (first | refine Sq.go ?_ | refine vL_nil (Sq.go ?_) | skip)
    (try refine WJ.cut ?_)
    (first | refine Sq.go ?_ | refine vL_nil (Sq.go ?_) | skip)
    (try refine WJ.cut ?_)
    refine Spl.of (fun h3 => ?_) (fun h3 => ?_)
    · rw [h3, if_pos rfl] at hE
      (repeat (first | refine Spl.t rfl ?_ | refine Spl.f rfl ?_))
      refine .out (by simp) ?_
      refine FinP.open rfl ?_
      unfold addR
      rw [hE]; rfl
    · rw [h3, if_neg (by decide)] at hE
      (repeat (first | refine Spl.t rfl ?_ | refine Spl.f rfl ?_))
      refine Spl.of (fun h4 => ?_) (fun h4 => ?_)
      · have h4 := of_decide_eq_true h4
        simp at h4
        rw [if_pos (by omega)] at hE
        (repeat (first | refine Spl.t rfl ?_ | refine Spl.f rfl ?_))
        refine .out (by simp) ?_
        refine FinP.open rfl ?_
        unfold addR
        rw [hE]; rfl
      · have h4 := of_decide_eq_false h4
        simp at h4
        rw [if_neg (by omega)] at hE
        (repeat (first | refine Spl.t rfl ?_ | refine Spl.f rfl ?_))
        (first | refine Sq.go ?_ | refine vL_nil (Sq.go ?_) | skip)
        (try refine vc_sound _ _ _ _ ?_)
        refine RegP.mix 9 rfl (by decide +kernel) ?_
        refine Req.of ⟨by omega, by omega, by omega, rfl⟩ ?_
        refine QuietP.of (QJ.appG rfl (.full _ _) (FlatQ.data rfl rfl) rfl (by show _ + 1 ≤ _; rw [List.length_drop, List.length_take, List.length_map]; omega)) ?_
        (repeat' (first | exact trivial | refine And.intro ?_ ?_))
        refine FinP.open rfl ?_
        unfold addR
        rw [hE, if_pos rfl, rmv, ← take_all6 R]; rfl
end Go.Proofs.E
end
section
namespace Go.Gv
open Go.RowKit
structure CalmC (all : Array Oper) (m1 : Nat) : Prop where
  back : ∀ j o, all[j]? = some o → ∀ e, e ∈ o.after → Region.binds .any e = true → e.on < j
  tail : ∀ j o, all[j]? = some o → m1 < j → ∀ i, i < m1 → Anc all j i
  names : ∀ j o, j ≤ m1 → all[j]? = some o → ∀ i p, i < j → all[i]? = some p → edge o i = true ∨ ((∀ x, p.dst = some x → namesT all o x = false) ∧ ∀ x, o.dst = some x → namesT all p x = false)
theorem calm_anyC {X : Cx} {all : Array Oper} {m m1 : Nat} {t0 : T} {σ : Sg} {V : Nat → AV} {E : Nat → Option (Nat × Ent)} {Q' : Exit → Act → World → Prop} (hmm : m = m1 + 1) (hc : CalmC all m1) (hm : m ≤ all.size) (hE1 : E m1 = none)
    (hendB : ∀ γ H a w listed, St X γ H (states all V t0 m1) (bornAt E (fun _ => true) σ m1) a w → listed.size = all.size → (∀ j, j < all.size → listed.getD j false = decide (j < m1)) → wpAnyIn (Fr X.ro) 0 X.P .any all Q' (all.size - m1) listed a w)
    (hstep : ∀ i o, i < m → all[i]? = some o → BStep X all o (states all V t0 i) σ (V i) (E i) ∧ dOk o.dst X.N = true)
    (hfr : ∀ i id e, E i = some (id, e) → isFresh id t0 σ X.pin = true ∧ (∀ j x, j < m → j ≠ i → dstAt all j = some x → has2 id (V j) = false) ∧ ∀ j id' e', j ≠ i → E j = some (id', e') → id' ≠ id ∧ entHas id e' = false)
    (hend : ∀ γ H a w listed, St X γ H (states all V t0 m) (bornAt E (fun _ => true) σ m) a w → listed.size = all.size → (∀ j, j < all.size → listed.getD j false = decide (j < m)) → wpAnyIn (Fr X.ro) 0 X.P .any all Q' (all.size - m) listed a w) :
    ∀ (fuel : Nat) (listed : Array Bool) (γ : Ids) (H : HF) (a : Act) (w : World), listed.size = all.size →
      (∀ j, m ≤ j → listed.getD j false = false) → (∀ i o, listed.getD i false = true → all[i]? = some o → ∀ e, e ∈ o.after → Region.binds .any e = true → listed.getD e.on false = true) →
      ((List.range m).filter fun j => !listed.getD j false).length + (all.size - m) = fuel →
      TabOk γ H (tabAt all V t0 (fun j => listed.getD j false) m) a.tmps → St X γ H [] (bornAt E (fun j => listed.getD j false) σ m) a w →
      wpAnyIn (Fr X.ro) 0 X.P .any all Q' fuel listed a w := by
  intro fuel
  induction fuel with
  | zero =>
    intro listed γ H a w hs htail hclosed hcount htab sst
    have hall : ∀ j, j < m → listed.getD j false = true := fun j hj => by
      have h0 : ((List.range m).filter fun j => !listed.getD j false) = [] := List.length_eq_zero_iff.1 (by omega)
      have := List.filter_eq_nil_iff.1 h0 j (List.mem_range.2 hj)
      simpa using this
    have hmn : m = all.size := by omega
    have hst : St X γ H (states all V t0 m) (bornAt E (fun _ => true) σ m) a w := St.withT (by have h9 := sst; rw [bornAt_congr (S' := fun _ => true) m (fun j hj _ => hall j hj)] at h9; exact h9) (fun i b hi => htab i b (by
      rw [look_states] at hi
      rw [← hi]
      simp only [tabAt]
      rw [lastW_congr m (fun j hj _ => hall j hj)]))
    have := hend γ H a w listed hst hs (fun j hj => by rw [hall j (by omega)]; simp; omega)
    rw [show all.size - m = 0 from by omega] at this; exact this
  | succ fuel ih =>
    intro listed γ H a w hs htail hclosed hcount htab sst
    by_cases hall : ∀ j, j < m → listed.getD j false = true
    · -- the calm part is over
      have hst : St X γ H (states all V t0 m) (bornAt E (fun _ => true) σ m) a w := St.withT (by have h9 := sst; rw [bornAt_congr (S' := fun _ => true) m (fun j hj _ => hall j hj)] at h9; exact h9) (fun i b hi => htab i b (by
        rw [look_states] at hi
        rw [← hi]
        simp only [tabAt]
        rw [lastW_congr m (fun j hj _ => hall j hj)]))
      have h0 : ((List.range m).filter fun j => !listed.getD j false) = [] := List.filter_eq_nil_iff.2 fun j hj => by simp only [hall j (List.mem_range.1 hj)]; simp
      rw [h0] at hcount
      simp only [List.length_nil, Nat.zero_add] at hcount
      have := hend γ H a w listed hst hs (fun j hj => by
        by_cases hj' : j < m
        · rw [hall j hj']; simp [hj']
        · rw [htail j (by omega)]; simp; omega)
      rw [hcount] at this
      exact this
    · rcases Classical.em (∀ j, j < m1 → listed.getD j false = true) with hall1 | hall1
      · have hl1 : listed.getD m1 false = false := by
          cases hx : listed.getD m1 false with
          | false => rfl
          | true =>
            refine absurd (fun j hj => ?_) hall
            by_cases e : j = m1
            · rw [e]; exact hx
            · exact hall1 j (by omega)
        have hlb : bornAt E (fun j => listed.getD j false) σ m = bornAt E (fun _ => true) σ m1 := by
          rw [hmm]; simp only [bornAt, hE1]; exact bornAt_congr m1 (fun j hj _ => hall1 j hj)
        have hst : St X γ H (states all V t0 m1) (bornAt E (fun _ => true) σ m1) a w := St.withT (by have h9 := sst; rw [hlb] at h9; exact h9) (fun i b hi => htab i b (by
          rw [look_states] at hi
          rw [← hi]
          simp only [tabAt]
          have : lastW all (fun j => listed.getD j false) i m = lastW all (fun _ => true) i m1 := by
            rw [hmm]; simp only [lastW, hl1, Bool.false_eq_true, false_and, if_false]; exact lastW_congr m1 (fun j hj _ => hall1 j hj)
          rw [this]))
        have h0 : ((List.range m).filter fun j => !listed.getD j false) = [m1] := by
          have e1 : (List.range m1).filter (fun j => !listed.getD j false) = [] := List.filter_eq_nil_iff.2 fun j hj => by simp only [hall1 j (List.mem_range.1 hj)]; simp
          rw [hmm, List.range_succ, List.filter_append, e1, List.nil_append]
          simp only [List.filter_cons, List.filter_nil, hl1, Bool.not_false, if_true]
        rw [h0] at hcount
        simp only [List.length_cons, List.length_nil] at hcount
        have := hendB γ H a w listed hst hs (fun j hj => by
          by_cases hj' : j < m1
          · rw [hall1 j hj']; simp [hj']
          · by_cases e : j = m1
            · rw [e, hl1]; simp
            · rw [htail j (by omega)]; simp; omega)
        rw [show all.size - m1 = fuel + 1 from by omega] at this
        exact this
      refine ⟨fun hn => ?_, fun i hi => ?_⟩
      · -- the least that is not listed is ready
        exfalso
        have hex : ∃ j, j < m ∧ listed.getD j false = false := by
          refine Classical.byContradiction fun hno => hall fun j hj => ?_
          cases hx : listed.getD j false with
          | true => rfl
          | false => exact absurd ⟨j, hj, hx⟩ hno
        have hmin : ∃ j, j < m ∧ listed.getD j false = false ∧ ∀ i, i < j → listed.getD i false = true := by
          obtain ⟨j, hj⟩ := hex
          induction j using Nat.strongRecOn with
          | _ j ihj =>
            by_cases hlow : ∀ i, i < j → listed.getD i false = true
            · exact ⟨j, hj.1, hj.2, hlow⟩
            · have : ∃ i, i < j ∧ listed.getD i false = false := by
                refine Classical.byContradiction fun hno => hlow fun i hi => ?_
                cases hx : listed.getD i false with
                | true => rfl
                | false => exact absurd ⟨i, hi, hx⟩ hno
              obtain ⟨i, hi, hx⟩ := this
              exact ihj i hi ⟨by omega, hx⟩
        obtain ⟨j, hj, hjl, hlow⟩ := hmin
        have hjn : j < all.size := by omega
        have hmem' : j ∈ Region.ready .any all listed := by
          rw [mem_ready]
          refine ⟨?_, all[j], by simp [hjn], fun e he hb => hlow _ (hc.back j all[j] (by simp [hjn]) e he hb)⟩
          rw [Array.getD_eq_getD_getElem?] at hjl ⊢
          rw [Array.getElem?_eq_getElem (by omega)] at hjl ⊢
          simpa using hjl
        rw [hn] at hmem'; cases hmem'
      · obtain ⟨h1, o, ho, h2⟩ := ready_sound hi
        obtain ⟨hil, hif⟩ := getD_of h1
        have hin : i < all.size := (Array.getElem?_eq_some_iff.1 ho).1
        have him : i < m := by
          refine Classical.byContradiction fun hge => hall1 fun j hj => ?_
          exact anc_listed hclosed (hc.tail i o ho (by omega) j hj) ho h2
        -- who writes what i names: listed just if it stands ahead
        have hwr : ∀ x, namesT all o x = true → ∀ j, j < m → dstAt all j = some x → listed.getD j false = decide (j < i) := by
          intro x hx j hj hd'
          cases hp : all[j]? with
          | none => simp [dstAt, hp] at hd'
          | some p =>
            simp only [dstAt, hp, Option.bind_some] at hd'
            by_cases hji : j < i
            · rcases hc.names i o (by omega) ho j p hji hp with h3 | ⟨h3, _⟩
              · rw [edge_listed h3 h2]; simp [hji]
              · rw [h3 x hd'] at hx; cases hx
            · by_cases e : j = i
              · subst e; rw [hif]; simp
              · rcases hc.names j p (by omega) hp i o (by omega) ho with h3 | ⟨_, h3⟩
                · cases hlj : listed.getD j false with
                  | false => simp; omega
                  | true =>
                    have := edge_listed h3 (hclosed j p hlj hp)
                    rw [hif] at this; cases this
                · rw [h3 x hd'] at hx; cases hx
        have htab_i : ∀ x, namesT all o x = true → tabAt all V t0 (fun j => listed.getD j false) m x = look x (states all V t0 i) := by
          intro x hx
          rw [look_states]
          simp only [tabAt]
          rw [lastW_congr m (fun j hj hd' => hwr x hx j hj hd'), lastW_top m (by omega)]
        have hopnd : ∀ x, x ∈ o.op.operands → ∀ v, ge (states all V t0 i) x = some v → Rep γ H v (a.eval x) := by
          intro x hx v hv
          cases x with
          | tmp y =>
            have hy : namesT all o y = true := by
              simp only [namesT, Bool.or_eq_true]
              exact .inl (.inr (List.any_eq_true.2 ⟨_, Array.mem_toList_iff.2 hx, by simp [hasT]⟩))
            obtain ⟨u, hu, hr⟩ := htab y v (by rw [htab_i y hy]; exact hv)
            simp only [Act.eval, Array.getD_eq_getD_getElem?, hu, Option.getD_some]
            exact hr
          | const c => simp only [ge, Option.some.injEq] at hv; subst hv; exact rep_const γ H c
          | func f => simp only [ge, Option.some.injEq] at hv; subst hv; exact .d _ _ (.fn f [] [] rfl (fun j a u h1 => by simp at h1))
          | global g => simp [ge] at hv
        obtain ⟨hos, hdok⟩ := hstep i o him ho
        -- behind it
        have hnextG : ∀ v γ' H' w', TabOk γ' H' (tabAt all V t0 (fun j => listed.getD j false) m) a.tmps → Rep γ' H' (V i) v →
            St X γ' H' [] (bornAt E (fun j => (listed.setIfInBounds i true).getD j false) σ m) (a.put o.dst v) w' → wpAnyIn (Fr X.ro) 0 X.P .any all Q' fuel (listed.setIfInBounds i true) (a.put o.dst v) w' := by
          intro v γ' H' w' htab' hr sst'
          refine ih _ γ' H' _ w' (by simpa using hs) (fun j hj => ?_) (fun j p hj hp e he hb => ?_) ?_ ?_ sst'
          · rw [getD_set_ne false (by omega)]; exact htail j hj
          · by_cases e' : i = j
            · subst e'
              rw [ho] at hp; simp only [Option.some.injEq] at hp; subst hp
              exact getD_set_true (h2 e he hb)
            · rw [getD_set_ne false e'] at hj
              exact getD_set_true (hclosed j p hj hp e he hb)
          · have hf : ((List.range m).filter fun j => !listed.getD j false).length = ((List.range m).filter fun j => !(listed.setIfInBounds i true).getD j false).length + 1 := by
              have h5 : ∀ (l : List Nat), l.Nodup → i ∈ l → (l.filter fun j => !listed.getD j false).length = (l.filter fun j => !(listed.setIfInBounds i true).getD j false).length + 1 := by
                intro l
                induction l with
                | nil => intro _ h; cases h
                | cons b l ihl =>
                  intro hnd hmem'
                  rw [List.nodup_cons] at hnd
                  by_cases e : i = b
                  · subst e
                    have h6 : (listed.setIfInBounds i true).getD i false = true := by
                      rw [Array.getD_eq_getD_getElem?]; simp [hil]
                    have h7 : (l.filter fun j => !listed.getD j false) = (l.filter fun j => !(listed.setIfInBounds i true).getD j false) := by
                      refine List.filter_congr fun j hj => ?_
                      have hne : i ≠ j := fun e => hnd.1 (e ▸ hj)
                      rw [getD_set_ne false hne]
                    simp only [List.filter_cons, hif, h6, Bool.not_false, Bool.not_true, if_true, h7, List.length_cons, Bool.false_eq_true, if_false]
                  · have h6 := getD_set_ne (listed := listed) false e
                    have h7 := ihl hnd.2 (by rcases List.mem_cons.1 hmem' with h | h; exact absurd h e; exact h)
                    simp only [List.filter_cons, h6]
                    split <;> simp only [List.length_cons, h7]
              exact h5 _ List.nodup_range (List.mem_range.2 him)
            omega
          · -- the table
            intro x b hx
            by_cases hxd : o.dst = some x
            · have hlw : tabAt all V t0 (fun j => (listed.setIfInBounds i true).getD j false) m x = some (V i) := by
                have hnx : namesT all o x = true := by simp [namesT, hxd]
                simp only [tabAt]
                have : lastW all (fun j => (listed.setIfInBounds i true).getD j false) x m = lastW all (fun j => decide (j < i + 1)) x m := by
                  refine lastW_congr m fun j hj hd' => ?_
                  by_cases e : i = j
                  · subst e; rw [Array.getD_eq_getD_getElem?]; simp [hil]
                  · show (listed.setIfInBounds i true).getD j false = _
                    rw [getD_set_ne false e, hwr x hnx j hj hd']
                    simp; omega
                rw [this, lastW_top m (by omega)]
                have hda : dstAt all i = some x := by simp [dstAt, ho, hxd]
                simp [lastW, hda]
              rw [hlw] at hx
              simp only [Option.some.injEq] at hx
              subst hx
              have hlt : x < a.tmps.size := by have := sst.size; rw [hxd] at hdok; simp only [dOk, Nat.blt_eq] at hdok; omega
              exact ⟨v, by rw [hxd]; simp [Act.put, hlt], hr⟩
            · have hlw : tabAt all V t0 (fun j => (listed.setIfInBounds i true).getD j false) m x = tabAt all V t0 (fun j => listed.getD j false) m x := by
                simp only [tabAt]
                rw [lastW_congr m fun j hj hd' => ?_]
                have e : i ≠ j := fun e => by subst e; simp [dstAt, ho] at hd'; exact hxd hd'
                exact getD_set_ne false e
              rw [hlw] at hx
              obtain ⟨u, hu, hr'⟩ := htab' x b hx
              refine ⟨u, ?_, hr'⟩
              cases hod : o.dst with
              | none => simpa [Act.put, hod] using hu
              | some d =>
                have hne : d ≠ x := fun e => hxd (by rw [hod, e])
                simp only [Act.put]
                rw [Array.getElem?_setIfInBounds, if_neg hne]; exact hu
        have hnext : E i = none → ∀ v γ' σ' H' w', Mem w H (fun _ => False) γ' H' σ' w' → Rep γ H' (V i) v → wpAnyIn (Fr X.ro) 0 X.P .any all Q' fuel (listed.setIfInBounds i true) (a.put o.dst v) w' := by
          intro hE v γ' σ' H' w' hm' hr
          refine hnextG v γ H' w' (fun x b hx => let ⟨u, hu, r⟩ := htab x b hx; ⟨u, hu, r.mono hm'.hle⟩) hr ?_
          have h9 := sst.calm (d := o.dst) hm' hdok hr
          rw [bornAt_congr (S' := fun j => listed.getD j false) m (fun j hj hne => by
            have e' : i ≠ j := fun e => by subst e; exact hne hE
            exact getD_set_ne false e')]
          exact h9.wk (Wk.nil _) (Wk.refl _)
        have hmemσ : Mem X.w0 X.H0 X.B γ H σ w := sst.mem.wk (fun x e hx => bornAt_old hx (fun i' y e' hE' => fun hyx => by
          have := (fresh_s (hfr i' y e' hE').1 hx).1
          exact this hyx.symm) m)
        -- its guard
        have hguard : ∀ j b' d b, o.guard = some (j, b') → ((all[j]?).bind (·.dst)) = some d → look d (states all V t0 i) = some (.d (.v (.bool b))) → yielded all a.tmps j = some b := by
          intro j b' d b hg hd' hl
          have hnd : namesT all o d = true := by simp [namesT, hg, hd']
          obtain ⟨u, hu, hr⟩ := htab d _ (by rw [htab_i d hnd]; exact hl)
          have := rep_v hr
          subst this
          simp [yielded, hd', hu]
        have hguardU : ∀ j b' d, o.guard = some (j, b') → ((all[j]?).bind (·.dst)) = some d → look d (states all V t0 i) = some (.tup []) → yielded all a.tmps j = none := by
          intro j b' d hg hd' hl
          have hnd : namesT all o d = true := by simp [namesT, hg, hd']
          obtain ⟨u, hu, hr⟩ := htab d _ (by rw [htab_i d hnd]; exact hl)
          have := rep_undef_eq hr
          subst this
          simp [yielded, hd', hu, undef]
        unfold wpOpIn
        simp only [ho]
        rcases hos with ⟨hE, ⟨hg, hq⟩ | ⟨j, b, d, hg, hd', hl, hq⟩ | ⟨j, b, b', d, hg, hd', hl, hne, hV⟩ | ⟨j, b, d, hg, hd', hl, hV⟩⟩ | ⟨id, en, hg, hnj, hE⟩
        · have hw : Region.wanted o (yielded all a.tmps) = true := by simp [Region.wanted, hg]
          rw [if_pos hw]
          exact ⟨fun _ _ => trivial, hq γ H a w sst.lam hopnd hmemσ _ _ (hnext hE)⟩
        · have hw : Region.wanted o (yielded all a.tmps) = true := by simp [Region.wanted, hg, hguard j b d b hg hd' hl]
          rw [if_pos hw]
          exact ⟨fun _ _ => trivial, hq γ H a w sst.lam hopnd hmemσ _ _ (hnext hE)⟩
        · have hw : Region.wanted o (yielded all a.tmps) = false := by simp [Region.wanted, hg, hguard j b d b' hg hd' hl, hne]
          simp only [hw, Bool.false_eq_true, if_false]
          exact ⟨fun _ _ => trivial, hnext hE undef γ [] H w (sst.mem.refl γ) (by rw [hV]; exact rep_undef)⟩
        · have hw : Region.wanted o (yielded all a.tmps) = false := by simp [Region.wanted, hg, hguardU j b d hg hd' hl]
          simp only [hw, Bool.false_eq_true, if_false]
          exact ⟨fun _ _ => trivial, hnext hE undef γ [] H w (sst.mem.refl γ) (by rw [hV]; exact rep_undef)⟩
        · have hw : Region.wanted o (yielded all a.tmps) = true := by simp [Region.wanted, hg]
          rw [if_pos hw]
          refine ⟨fun _ _ => trivial, ?_⟩
          obtain ⟨bv, bn, bw, hrun, hmn, hrn⟩ := hnj γ H a w hopnd hmemσ
          rw [show (Fr X.ro).round = X.ro from rfl, hrun, Oper.uponIn_value]
          obtain ⟨f2, f3, f4⟩ := hfr i id _ hE
          have hfb : isFresh id [] (bornAt E (fun j => listed.getD j false) σ m) X.pin = true := by
            simp only [isFresh, Bool.and_eq_true, List.all_eq_true] at f2 ⊢
            refine ⟨⟨fun p hp => by simp at hp, fun p hp => ?_⟩, f2.2⟩
            rcases bornAt_mem m hp with h7 | ⟨j, _, h8, h9⟩
            · simpa using f2.1.2 p h7
            · obtain ⟨y, f⟩ := p
              obtain ⟨g1, g2⟩ := f4 j y f (fun e => by subst e; rw [hif] at h8; cases h8) h9
              have : Nat.beq id y = false := by rw [← Bool.not_eq_true, Nat.beq_eq]; exact fun h => g1 h.symm
              simp [this, g2]
          have hnew := sst.new (d := o.dst) hmn hfb hdok hrn
          refine hnextG _ (upd γ id ⟨w.heap.size, bn, fun _ => False⟩) H _ ?_ ?_ ?_
          · intro x b hx
            obtain ⟨u, hu', r⟩ := htab x b hx
            refine ⟨u, hu', rep_upd r ?_⟩
            simp only [tabAt] at hx
            split at hx
            · next j hj =>
              simp only [Option.some.injEq] at hx; subst hx
              obtain ⟨h7, h8, h9⟩ := lastW_spec m j hj
              exact f3 j x h7 (fun e => by subst e; rw [hif] at h8; cases h8) h9
            · exact fresh_t f2 hx
          · exact hrn
          · refine hnew.wk (Wk.nil _) fun x f hx => ?_
            rw [look_cons]
            rcases bornAt_lookup m hx with ⟨j, hjm, hj, hEj⟩ | hx
            · by_cases e' : j = i
              · subst e'
                rw [hE] at hEj
                simp only [Option.some.injEq, Prod.mk.injEq] at hEj
                rw [if_pos hEj.1.symm, hEj.2]
              · have hne := (f4 j x f e' hEj).1
                rw [if_neg hne]
                refine bornAt_look (fun i1 j1 y e1 e2 h1' h2' => Classical.byContradiction fun hne' => (((hfr i1 y e1 h1').2.2 j1 y e2 (fun h => hne' h.symm) h2').1 rfl)) m hjm ?_ hEj
                rw [getD_set_ne false (fun h => e' h.symm)] at hj; exact hj
            · have hne := (fresh_s f2 hx).1
              rw [if_neg hne]
              exact bornAt_old hx (fun i' y e' hE' => fun hyx => by
                have := (fresh_s (hfr i' y e' hE').1 hx).1
                exact this hyx.symm) m

def calmCb (all : Array Oper) (m1 : Nat) : Bool :=
  (List.range all.size).all fun j => match all[j]? with
    | none => true
    | some o => o.after.all (fun e => !Region.binds .any e || Nat.blt e.on j) && (Nat.ble j m1 || (List.range m1).all fun i => ancB all 24 j i) &&
      (!Nat.ble j m1 || (List.range j).all fun i => match all[i]? with
        | none => true
        | some p => edge o i || ((match p.dst with | some x => !namesT all o x | none => true) && (match o.dst with | some x => !namesT all p x | none => true)))
theorem calmCb_R {all : Array Oper} {m1 : Nat} (h : calmCb all m1 = true) : CalmC all m1 := by
  have at' : ∀ j o, all[j]? = some o → _ := fun j o ho => by
    have hj : j < all.size := (Array.getElem?_eq_some_iff.1 ho).1
    have h1 := (List.all_eq_true.1 h) j (List.mem_range.2 hj)
    simp only [ho, Bool.and_eq_true] at h1
    exact h1
  refine ⟨fun j o ho e he hb => ?_, fun j o ho hm i hi => ?_, fun j o hjm ho i p hi hp => ?_⟩
  · obtain ⟨⟨h2, h3⟩, h4⟩ := at' j o ho
    have := (Array.all_eq_true_iff_forall_mem.1 h2) e he
    simp only [hb, Bool.not_true, Bool.false_or, Nat.blt_eq] at this
    exact this
  · obtain ⟨⟨h2, h3⟩, h4⟩ := at' j o ho
    rcases Bool.or_eq_true_iff.1 h3 with h5 | h5
    · simp only [Nat.ble_eq] at h5; omega
    · exact ancB_sound _ _ _ (List.all_eq_true.1 h5 i (List.mem_range.2 hi))
  · obtain ⟨⟨h2, h3⟩, h4⟩ := at' j o ho
    rcases Bool.or_eq_true_iff.1 h4 with h5 | h5
    · have : Nat.ble j m1 = true := by simpa using hjm
      rw [this] at h5; cases h5
    · have h5 := List.all_eq_true.1 h5 i (List.mem_range.2 hi)
      simp only [hp] at h5
      rcases Bool.or_eq_true_iff.1 h5 with h6 | h6
      · exact .inl h6
      · refine .inr ?_
        simp only [Bool.and_eq_true] at h6
        refine ⟨fun x hx => ?_, fun x hx => ?_⟩
        · have := h6.1; simp only [hx] at this; simpa using this
        · have := h6.2; simp only [hx] at this; simpa using this
/-- The last of the head, which some of the tail do not wait for. -/
def FreeO (X : Cx) (ops : Array Oper) (m1 : Nat) (σ : Sg) (t : T) (K : T → Prop) : Prop :=
  ∃ o V, ops[m1]? = some o ∧ o.guard = none ∧ QJ X o t σ V ∧ dOk o.dst X.N = true ∧ V.open = true ∧ K (putT o.dst V t)
theorem WJ.calmC {X : Cx} {id : Nat} {ops : Array Oper} {t : T} {σ : Sg} {RB RA : T → Sg → Prop} {Q' : Exit → Act → World → Prop} (m1 : Nat) (hm : X.P.follows .mixedOrders = true) (hc : CalmC ops m1) (hle : m1 + 1 ≤ ops.size)
    (hendB : ∀ t σ, RB t σ → ∀ γ H a w listed, St X γ H t σ a w → listed.size = ops.size → (∀ j, j < ops.size → listed.getD j false = decide (j < m1)) → wpAnyIn (Fr X.ro) 0 X.P .any ops Q' (ops.size - m1) listed a w)
    (hend : ∀ t σ, RA t σ → ∀ γ H a w listed, St X γ H t σ a w → listed.size = ops.size → (∀ j, j < ops.size → listed.getD j false = decide (j < m1 + 1)) → wpAnyIn (Fr X.ro) 0 X.P .any ops Q' (ops.size - (m1 + 1)) listed a w)
    (h : CB X ops σ (fun t' σ' => RB t' σ' ∧ FreeO X ops m1 σ t' fun t'' => RA t'' σ') (ops.toList.take m1) t []) : ∀ γ H a w, St X γ H t σ a w → (Code.region id ops true).wpIn (Fr X.ro) 0 X.P Q' a w := by
  intro γ H a w s
  refine wpIn_region_any hm ?_
  have hlen : (ops.toList.take m1).length = m1 := by simp; omega
  have tb := CB.table (ops.toList.take m1) 0 t [] (fun j hj => by rw [hlen] at hj; rw [Nat.zero_add, List.getElem?_take, if_pos hj]; simp) h
  unfold Tabled at tb
  obtain ⟨V, E, h1, ⟨t', h2, h3, o1, V1, g1, g2, g3, g4, g5, g6⟩, ha, hb, hc', _⟩ := tb
  simp only [hlen, Nat.zero_add] at h1 h2 h3 ha hb hc' g6
  rw [statesFrom_zero] at h2
  have hst : ∀ i, i ≤ m1 → states ops (fun i => if i < m1 then V i else V1) t i = states ops V t i := fun i => by
    induction i with
    | zero => intro _; rfl
    | succ i ih => intro hi; simp only [states]; rw [ih (by omega), if_pos (by omega)]
  have s' : St X γ H t σ a { w with drawn := w.drawn + 1 } := ⟨s.lam, s.round, s.defers, s.size, s.pinned, s.tmp, s.mem.drew⟩
  have hall : ∀ j, (Array.replicate ops.size false).getD j false = false := fun j => by
    rw [Array.getD_eq_getD_getElem?, Array.getElem?_replicate]; split <;> rfl
  have hbB : bornAt (fun i => if i < m1 then E i else none) (fun _ => true) σ m1 = bornFrom E 0 [] m1 ++ σ := by
    rw [bornAt_all]
    congr 1
    exact bornFrom_congr m1 fun i _ hi => if_pos (by omega)
  have hd1 : dstAt ops m1 = o1.dst := by simp [dstAt, g1]
  refine calm_anyC (m := m1 + 1) (m1 := m1) (t0 := t) (σ := σ) rfl hc hle (V := fun i => if i < m1 then V i else V1) (E := fun i => if i < m1 then E i else none) (by simp) (fun γ H a w lst st hls hlst => ?_) (fun i o hi ho => ?_) (fun i id e hE => ?_) (fun γ H a w lst st hls hlst => ?_) ops.size _ γ H a _ (by simp) (fun j _ => hall j) (fun i o hi => by rw [hall i] at hi; cases hi) ?_ ?_ ?_
  · rw [hbB, hst m1 (Nat.le_refl _)] at st
    exact hendB _ _ h3 γ H a w lst (st.wk h2 (Wk.refl _)) hls hlst
  · rw [hst i (by omega)]
    by_cases him : i < m1
    · have := h1 i o him ho
      rw [statesFrom_zero] at this
      simp only [if_pos him]; exact this
    · have e : i = m1 := by omega
      subst e
      rw [g1] at ho; cases ho
      simp only [if_neg him]
      exact ⟨.inl ⟨rfl, .inl ⟨g2, g3.wk h2 (Wk.refl _)⟩⟩, g4⟩
  · have him : i < m1 := by
      refine Classical.byContradiction fun hge => ?_
      rw [if_neg hge] at hE; cases hE
    simp only [if_pos him] at hE
    have g2 := ha i id e him hE
    refine ⟨g2, fun j x hj hne hx => ?_, fun j id' e' hne hE' => ?_⟩
    · by_cases hj' : j < m1
      · simp only [if_pos hj']; exact hb i j x id e him hj' hne hE hx
      · simp only [if_neg hj']; exact has2_open g5
    · by_cases hj : j < m1
      · rw [if_pos hj] at hE'
        exact hc' i j id e id' e' him hj hne hE hE'
      · rw [if_neg hj] at hE'; cases hE'
  · have hbe : bornAt (fun i => if i < m1 then E i else none) (fun _ => true) σ (m1 + 1) = bornFrom E 0 [] m1 ++ σ := by
      rw [← hbB]
      simp only [bornAt, Nat.lt_irrefl, if_false]
    have hse : states ops (fun i => if i < m1 then V i else V1) t (m1 + 1) = putT o1.dst V1 (states ops V t m1) := by
      simp only [states, Nat.lt_irrefl, if_false]
      rw [hst m1 (Nat.le_refl _), hd1]
    rw [hbe, hse] at st
    exact hend _ _ g6 γ H a w lst (st.wk h2.put (Wk.refl _)) hls hlst
  · have : ((List.range (m1 + 1)).filter fun j => !(Array.replicate ops.size false).getD j false) = List.range (m1 + 1) := List.filter_eq_self.2 fun j _ => by rw [hall j]; rfl
    rw [this, List.length_range]; omega
  · intro x b hx
    have : lastW ops (fun j => (Array.replicate ops.size false).getD j false) x (m1 + 1) = none := by
      have h0 : ∀ k, lastW ops (fun _ => false) x k = none := fun k => by
        induction k with
        | zero => rfl
        | succ k ih => simp [lastW, ih]
      rw [lastW_congr (S' := fun _ => false) (m1 + 1) (fun j _ _ => hall j)]; exact h0 _
    simp only [tabAt, this] at hx
    exact s.tmp x b hx
  · have : bornAt (fun i => if i < m1 then E i else none) (fun j => (Array.replicate ops.size false).getD j false) σ (m1 + 1) = σ := by
      have h0 : ∀ k, bornAt (fun i => if i < m1 then E i else none) (fun _ => false) σ k = σ := fun k => by
        induction k with
        | zero => rfl
        | succ k ih => simp only [bornAt, ih]; split <;> simp
      rw [bornAt_congr (S' := fun _ => false) (m1 + 1) (fun j _ _ => hall j)]; exact h0 _
    rw [this]; exact s'.wk (Wk.nil _) (Wk.refl _)
theorem CB.imp {X : Cx} {all : Array Oper} {σ : Sg} {Q Q' : T → Sg → Prop} (hQ : ∀ t σ, Q t σ → Q' t σ) : ∀ (rest : List Oper) (t : T) (bs : Sg), CB X all σ Q rest t bs → CB X all σ Q' rest t bs
  | [], t, bs, ⟨t', h1, h2⟩ => ⟨t', h1, hQ _ _ h2⟩
  | o :: rest, t, bs, h => by
    rcases h with ⟨V, h1, h2, h3, h4⟩ | ⟨id, V, e, hd, hg, hn, hN, hf, hb, hv, h4⟩
    · exact .inl ⟨V, h1, h2, h3, CB.imp hQ rest _ _ h4⟩
    · exact .inr ⟨id, V, e, hd, hg, hn, hN, hf, hb, hv, CB.imp hQ rest _ _ h4⟩
/-- As FreeO, reckoned. -/
def freeW (X : Cx) (ops : Array Oper) (m1 : Nat) (σ : Sg) (t : T) (K : T → Prop) : Prop := match ops[m1]? with
  | some o => match o.guard with
    | none => qw X o t σ (fun V => match dOk o.dst X.N && V.open with | true => K (putT o.dst V t) | false => False) False
    | some _ => False
  | none => False
theorem freeW_sound {X : Cx} {ops : Array Oper} {m1 : Nat} {σ : Sg} {t : T} {K : T → Prop} (h : freeW X ops m1 σ t K) : FreeO X ops m1 σ t K := by
  unfold freeW at h
  split at h
  · next o ho =>
    split at h
    · next hg =>
      rcases qw_sound h with ⟨V, hq, hk⟩ | h
      · split at hk
        · next hb =>
          simp only [Bool.and_eq_true] at hb
          exact ⟨o, V, ho, hg, hq, hb.1, hb.2, hk⟩
        · exact hk.elim
      · exact h.elim
    · exact h.elim
  · exact h.elim
/-- As RegP.mix, but some of the tail do not wait for the head's last operation (m1). -/
theorem RegP.mixF {X : Cx} {id : Nat} {ops : Array Oper} {t : T} {σ : Sg} {Q : T → Sg → Prop} (m1 : Nat) (hm : X.P.follows .mixedOrders = true) (hc : (calmCb ops m1 && Nat.ble (m1 + 1) ops.size) = true)
    (h : vB X ops σ (fun t' σ' => vO X ops Q (ops.size - m1) (trues m1 (falses (ops.size - m1))) t' σ' ∧ freeW X ops m1 σ t' fun t'' => vO X ops Q (ops.size - (m1 + 1)) (trues (m1 + 1) (falses (ops.size - (m1 + 1)))) t'' σ') (ops.toList.take m1) t []) : RegP X id ops t σ Q := by
  intro Q' hQ
  simp only [Bool.and_eq_true, Nat.ble_eq] at hc
  have key : ∀ m, m ≤ ops.size → ∀ t σ, vO X ops Q (ops.size - m) (trues m (falses (ops.size - m))) t σ → ∀ γ H a w listed, St X γ H t σ a w → listed.size = ops.size → (∀ j, j < ops.size → listed.getD j false = decide (j < m)) → wpAnyIn (Fr X.ro) 0 X.P .any ops (Post X Q') (ops.size - m) listed a w := fun m hle t σ h3 γ H a w lst hst hls hlst => by
    have e : lst = (trues m (falses (ops.size - m))).toArray := by
      rw [trues_eq, falses_eq]
      apply Array.ext
      · simp [hls]; omega
      · intro j h1 h2
        have hj := hlst j (by omega)
        rw [Array.getD_eq_getD_getElem?, Array.getElem?_eq_getElem h1, Option.getD_some] at hj
        rw [hj, List.getElem_toArray, List.getElem_append]
        split
        · next h3 => simp at h3; simp [h3]
        · next h3 => simp at h3; simp; omega
    rw [e]
    exact vO_sound (Q := Q) (Q' := Post X Q') (fun γ H t σ a w s q => ⟨γ, H, t, σ, s, hQ t σ q⟩) (ops.size - m) _ t σ h3 γ H a w hst
  refine WJ.calmC m1 hm (calmCb_R hc.1) hc.2 (key m1 (by omega)) (key (m1 + 1) hc.2) ?_
  exact CB.imp (fun t σ h => ⟨h.1, freeW_sound h.2⟩) _ _ _ (vB_sound _ _ _ h)
end Go.Gv
end
section
open Go Go.Gv
attribute [local irreducible] Go.Gv.WJ Go.Gv.OpJ Go.Gv.QJ Go.Gv.Spl Go.Gv.Req Go.Gv.IdxP Go.Gv.RegP Go.Gv.FinP Go.Gv.CellP Go.Gv.CellsP Go.Gv.ArrP Go.Gv.ArrsP Go.Gv.DropP Go.Gv.ByteP Go.Gv.StoreP
set_option maxRecDepth 100000
namespace Go.Proofs.E
attribute [local irreducible] elems
theorem nextIx_none (l : List OP) : ∀ (R : List OP), (∀ x, x ∈ R → wrongO l x = 6) → nextIx l R = -1
  | [], _ => rfl
  | o :: r, h => by
    have h1 := h o (List.mem_cons_self ..)
    have h2 := nextIx_none l r fun x hx => h x (List.mem_cons_of_mem _ hx)
    rw [nextIx, if_neg (fun e => e h1), h2]; rfl
theorem nextIx_at (l : List OP) : ∀ (R : List OP) (i : Nat) (x : OP), R[i]? = some x → (∀ y, y ∈ R.take i → wrongO l y = 6) → wrongO l x ≠ 6 → nextIx l R = i
  | [], i, x, h, _, _ => by simp at h
  | o :: r, 0, x, h, _, hw => by
    cases (Option.some.inj h)
    rw [nextIx, if_pos hw]; rfl
  | o :: r, i + 1, x, h, hb, hw => by
    have h1 := hb o (by simp)
    have h2 := nextIx_at l r i x (by simpa using h) (fun y hy => hb y (by simp [hy])) hw
    rw [nextIx, if_neg (fun e => e h1), h2, if_neg (by omega)]; omega
theorem nextIx_lt (l : List OP) : ∀ R : List OP, nextIx l R < R.length ∧ -1 ≤ nextIx l R
  | [] => by simp [nextIx]
  | o :: r => by
    have h := nextIx_lt l r
    rw [nextIx, List.length_cons]
    split
    · omega
    · split <;> omega
theorem nextR_at {l R : List OP} {i : Nat} (h : nextIx l R = i) : nextR l R = R.take i ++ R.drop (i + 1) := by unfold nextR; rw [h, if_neg (by omega), Int.toNat_natCast]
theorem nextO_at {l R : List OP} {i : Nat} {x : OP} (h : nextIx l R = i) (hx : R[i]? = some x) : nextO l R = x := by unfold nextO; rw [h, if_neg (by omega), Int.toNat_natCast, List.getD_eq_getElem?_getD, hx]; rfl
theorem six_snoc {l R : List OP} {i : Nat} {x : OP} (hx : R[i]? = some x) (h : ∀ y, y ∈ R.take i → wrongO l y = 6) (hw : wrongO l x = 6) : ∀ y, y ∈ R.take (i + 1) → wrongO l y = 6 := fun y hy => by
  rw [take_snoc hx] at hy
  rcases List.mem_append.1 hy with h1 | h1
  · exact h y h1
  · cases List.mem_singleton.1 h1; exact hw
theorem wo_row (R : List OP) (i : Nat) (k : Int) (hk : k = i + 1) : ([] : List (List D)) ++ List.drop (Int.toNat 0) (List.take ((i : Int)).toNat (R.map opD)) ++ List.drop k.toNat (List.take ((R.map opD).length : Int).toNat (R.map opD)) = (R.take i ++ R.drop (i + 1)).map opD := by
  subst hk
  rw [Int.toNat_natCast, Int.toNat_natCast, List.take_length, show ((i : Int) + 1).toNat = i + 1 from by omega, List.nil_append, List.map_append, List.map_take, List.map_drop]; rfl
theorem wo_len (R : List OP) (hR : R.length ≤ 1000000) (i k : Int) : 0 + (List.drop (Int.toNat 0) (List.take i.toNat (R.map opD))).length + (List.drop k.toNat (List.take ((R.map opD).length : Int).toNat (R.map opD))).length ≤ 2000000 := by
  rw [List.length_drop, List.length_drop, List.length_take, List.length_take, List.length_map]; omega
theorem Next_c {s : SS} {l : List OP} (h : isS s l) (R : List OP) (hR : R.length ≤ 1000000) : Cv 244 [rmv R, stv s] (.tup [rmv (nextR l R), opv (nextO l R), bv (decide (0 ≤ nextIx l R))]) := by
  refine Ct.of_wv Tryz.f244 Tryz.func244 rfl rfl fun w H B g0 => ?_
  (try refine WJ.cut ?_)
  (first | refine Sq.go ?_ | refine vL_nil (Sq.go ?_) | skip)
  (try refine WJ.cut ?_)
  refine WJ.loopK (V := Nat) (fun i => [(15, iv i)]) (fun _ => []) [] (fun i => R.length - i) (fun i => i ≤ R.length ∧ ∀ x, x ∈ R.take i → wrongO l x = 6) 0 ⟨by omega, fun x hx => by simp at hx⟩ (by repeat' (first | exact trivial | exact rfl | refine And.intro ?_ ?_)) (by repeat' (first | exact trivial | exact rfl | refine And.intro ?_ ?_)) ?_
  rintro i ⟨hi, hb⟩
  refine Spl.of (fun h1 => ?_) (fun h1 => ?_)
  · have hlt : i < R.length := by have := of_decide_eq_true h1; simp at this; omega
    have hx : R[i]? = some R[i] := by simp
    generalize R[i] = x at hx
    have hap := Apply_c h x
    (repeat (first | refine Spl.t rfl ?_ | refine Spl.f rfl ?_))
    refine IdxP.of (opD x) (by omega) (by simp [hx]) ?_
    (first | refine Sq.go ?_ | refine vL_nil (Sq.go ?_) | skip)
    (try refine WJ.cut ?_)
    refine OpJ.callV hap (fun _ _ => rfl) rfl rfl rfl ?_
    (first | refine Sq.go ?_ | refine vL_nil (Sq.go ?_) | skip)
    (try refine WJ.cut ?_)
    refine Spl.of (fun h2 => ?_) (fun h2 => ?_)
    · have h2 : wrongO l x ≠ 6 := by simpa using h2
      have hix := nextIx_at l R i x hx hb h2
      (repeat (first | refine Spl.t rfl ?_ | refine Spl.f rfl ?_))
      refine RegP.mixF 12 rfl (by decide +kernel) ?_
      refine Req.of ⟨by omega, by omega, by rw [List.length_map]; omega, rfl⟩ ?_
      have hwr : IntKind.i64.wrap ((i : Int) + 1) = i + 1 := wrap_id _ (by omega) (by omega)
      refine Req.of ⟨by rw [hwr]; omega, by rw [hwr, List.length_map]; omega, by rw [List.length_map]; omega⟩ ?_
      refine QuietP.of (QJ.appG rfl (.full _ _) (FlatQ.data rfl rfl) rfl (Nat.le_trans (Nat.le_trans (Nat.add_le_add_right (Nat.le_add_left _ 0) _) (wo_len R hR i _)) (by decide))) ?_
      (repeat' (first | exact trivial | refine And.intro ?_ ?_))
      all_goals (refine .out (by simp) ?_; refine FinP.open rfl ?_; rw [nextR_at hix, nextO_at hix hx, hix, decide_eq_true (Int.natCast_nonneg i)])
      all_goals exact congrArg (fun r => AV.tup [.agg [.d (.sl 6 r)], opv x, bv true]) (wo_row R i _ hwr)
    · have h2 : wrongO l x = 6 := by simpa using h2
      (repeat (first | refine Spl.t rfl ?_ | refine Spl.f rfl ?_))
      (first | refine Sq.go ?_ | refine vL_nil (Sq.go ?_) | skip)
      (try refine WJ.cut ?_)
      exact ⟨i + 1, ⟨by omega, six_snoc hx hb h2⟩, by omega, ⟨some_iv (wrap_id _ (by omega) (by omega)), trivial⟩, (by repeat' (first | exact trivial | exact rfl | refine And.intro ?_ ?_)), (by repeat' (first | exact trivial | exact rfl | refine And.intro ?_ ?_)), (by repeat' (first | exact trivial | exact rfl | refine And.intro ?_ ?_))⟩
  · have h1 := of_decide_eq_false h1
    simp at h1
    rw [List.take_of_length_le (by omega)] at hb
    have hix := nextIx_none l R hb
    (repeat (first | refine Spl.t rfl ?_ | refine Spl.f rfl ?_))
    (first | refine Sq.go ?_ | refine vL_nil (Sq.go ?_) | skip)
    (try refine vc_sound _ _ _ _ ?_)
    refine FinP.open rfl ?_
    unfold nextR nextO
    rw [hix]; rfl
end Go.Proofs.E
end
section
open Go Go.Gv
attribute [local irreducible] Go.Gv.WJ Go.Gv.OpJ Go.Gv.QJ Go.Gv.Spl Go.Gv.Req Go.Gv.IdxP Go.Gv.RegP Go.Gv.FinP Go.Gv.CellP Go.Gv.CellsP Go.Gv.ArrP Go.Gv.ArrsP Go.Gv.DropP Go.Gv.ByteP Go.Gv.StoreP
set_option maxRecDepth 100000
namespace Go.Proofs.E
attribute [local irreducible] elems
end Go.Proofs.E
end
section
namespace Go.Gv.Fl
open Ieee
set_option exponentiation.threshold 2000
/-- A whole number's word. -/
def fl (z : Int) : Nat := double.write (.number (decide (z < 0)) z.natAbs 0)

theorem log2_lt {n k : Nat} (h0 : n ≠ 0) (h : n < 2 ^ k) : n.log2 < k := (Nat.log2_lt h0).2 h
theorem log2_mul (n k : Nat) (h : n ≠ 0) : (n * 2 ^ k).log2 = n.log2 + k := by
  induction k with
  | zero => simp
  | succ k ih =>
    rw [Nat.pow_succ, ← Nat.mul_assoc, Nat.mul_comm (n * 2 ^ k) 2, Nat.log2_two_mul (Nat.mul_ne_zero h (Nat.ne_of_gt (Nat.two_pow_pos k))), ih]; omega

theorem least : double.leastPlace = -1074 := by decide
theorem binade : double.binade = 2 ^ 52 := rfl
theorem sw : double.signWeight = 2 ^ 63 := rfl
theorem inf : double.infRung = 2047 * 2 ^ 52 := by decide
/-- What is written of mag·2^place, if that is a whole number z below 2^53. -/
theorem nearest_int (neg : Bool) (mag z : Nat) (place : Int) (hp : -1074 ≤ place) (hz : 0 < z) (hz' : z < 2 ^ 53) (h : mag * 2 ^ (place + 1074).toNat = z * 2 ^ 1074) :
    double.nearest neg mag place = double.word neg ((1022 + z.log2) * 2 ^ 52 + z * 2 ^ (52 - z.log2)) := by
  have hz0 : z ≠ 0 := by omega
  have hm0 : mag ≠ 0 := fun e => by
    subst e; rw [Nat.zero_mul] at h
    have := Nat.mul_pos hz (Nat.two_pow_pos 1074); omega
  have hl : z.log2 ≤ 52 := by have := log2_lt hz0 hz'; omega
  have hlog : mag.log2 + (place + 1074).toNat = z.log2 + 1074 := by
    rw [← log2_mul mag _ hm0, h, log2_mul z _ hz0]
  unfold Format.nearest
  rw [if_neg hm0]
  simp only [least]
  have hlast : max (place + (mag.log2 : Int) - (double.fractionBits : Nat)) (-1074) = ((z.log2 : Nat) : Int) - 52 := by
    have : (double.fractionBits : Int) = 52 := rfl
    omega
  rw [hlast]
  have hkept : Toward.even.cut neg (mag <<< (place - (((z.log2 : Nat) : Int) - 52)).toNat) ((((z.log2 : Nat) : Int) - 52) - place).toNat = z * 2 ^ (52 - z.log2) := by
    by_cases hc : ((z.log2 : Nat) : Int) - 52 ≤ place
    · have e1 : (((z.log2 : Nat) : Int) - 52 - place).toNat = 0 := by omega
      rw [e1]
      have e2 : mag <<< (place - (((z.log2 : Nat) : Int) - 52)).toNat = z * 2 ^ (52 - z.log2) := by
        rw [Nat.shiftLeft_eq]
        have : mag * 2 ^ (place - (((z.log2 : Nat) : Int) - 52)).toNat * 2 ^ (1022 + z.log2) = z * 2 ^ (52 - z.log2) * 2 ^ (1022 + z.log2) := by
          rw [Nat.mul_assoc, ← Nat.pow_add, Nat.mul_assoc, ← Nat.pow_add, show (place - (((z.log2 : Nat) : Int) - 52)).toNat + (1022 + z.log2) = (place + 1074).toNat by omega, show 52 - z.log2 + (1022 + z.log2) = 1074 by omega]
          exact h
        exact Nat.eq_of_mul_eq_mul_right (Nat.two_pow_pos _) this
      rw [e2]
      unfold Toward.cut
      simp [Nat.mod_one]
    · have e1 : (place - (((z.log2 : Nat) : Int) - 52)).toNat = 0 := by omega
      rw [e1, Nat.shiftLeft_zero]
      generalize hd : (((z.log2 : Nat) : Int) - 52 - place).toNat = d
      have hmag : mag = z * 2 ^ (52 - z.log2) * 2 ^ d := by
        have : mag * 2 ^ (place + 1074).toNat = z * 2 ^ (52 - z.log2) * 2 ^ d * 2 ^ (place + 1074).toNat := by
          rw [Nat.mul_assoc, Nat.mul_assoc, ← Nat.pow_add, ← Nat.pow_add, show 52 - z.log2 + (d + (place + 1074).toNat) = 1074 by omega]
          exact h
        exact Nat.eq_of_mul_eq_mul_right (Nat.two_pow_pos _) this
      have hk : d ≤ mag.log2 := by
        rw [hmag, log2_mul _ _ (Nat.mul_ne_zero hz0 (Nat.ne_of_gt (Nat.two_pow_pos _)))]; omega
      unfold Toward.cut
      rw [Nat.min_eq_left (by omega), Nat.one_shiftLeft]
      have hr : mag % 2 ^ d = 0 := by rw [hmag]; exact Nat.mul_mod_left _ _
      have hq : mag / 2 ^ d = z * 2 ^ (52 - z.log2) := by rw [hmag]; exact Nat.mul_div_cancel _ (Nat.two_pow_pos _)
      simp only [hr, hq]
      have : ¬ (2 ^ d < 2 * 0) := by omega
      have h2 : (2 ^ d == 2 * 0) = false := beq_eq_false_iff_ne.2 (Nat.ne_of_gt (Nat.two_pow_pos d))
      simp [h2]
  rw [hkept]
  have hb : z * 2 ^ (52 - z.log2) < 2 ^ 53 := by
    have : z < 2 ^ (z.log2 + 1) := Nat.lt_log2_self
    calc z * 2 ^ (52 - z.log2) < 2 ^ (z.log2 + 1) * 2 ^ (52 - z.log2) := (Nat.mul_lt_mul_right (Nat.two_pow_pos _)).2 this
      _ = 2 ^ 53 := by rw [← Nat.pow_add]; congr 1; omega
  have e3 : ((((z.log2 : Nat) : Int) - 52) - -1074).toNat = 1022 + z.log2 := by omega
  have hmin : min ((1022 + z.log2) * 2 ^ 52 + z * 2 ^ (52 - z.log2)) (2047 * 2 ^ 52) = (1022 + z.log2) * 2 ^ 52 + z * 2 ^ (52 - z.log2) := by
    have : (1022 + z.log2) * 2 ^ 52 ≤ 1074 * 2 ^ 52 := Nat.mul_le_mul_right _ (by omega)
    have hle : (1022 + z.log2) * 2 ^ 52 + z * 2 ^ (52 - z.log2) ≤ 2047 * 2 ^ 52 := Nat.le_trans (Nat.add_le_add this (Nat.le_of_lt hb)) (by decide)
    exact Nat.min_eq_left hle
  rw [e3, inf, binade]
  exact congrArg (double.word neg) hmin

/-- A word that stands for a whole number. -/
def Is (d : Datum) (z : Int) : Prop := ∃ s m i, d = .number s m i ∧ -104 ≤ i ∧ i ≤ 64 ∧ (m : Int) * 2 ^ (i + 1074).toNat * (if s then -1 else 1) = z * 2 ^ 1074
theorem read_word (neg : Bool) (L k : Nat) (hL : L ≤ 1074) (hk : 2 ^ 52 ≤ k) (hk' : k < 2 ^ 53) : double.read (double.word neg (L * 2 ^ 52 + k)) = .number neg k (L - 1074) := by
  have hr : L * 2 ^ 52 + k < 2047 * 2 ^ 52 := by
    have : L * 2 ^ 52 ≤ 1074 * 2 ^ 52 := Nat.mul_le_mul_right _ hL
    omega
  have hw : double.word neg (L * 2 ^ 52 + k) / 2 ^ 63 % 2 = neg.toNat ∧ double.word neg (L * 2 ^ 52 + k) % 2 ^ 63 = L * 2 ^ 52 + k := by
    unfold Format.word
    rw [sw]
    cases neg with
    | true => simp only [if_true, Bool.toNat_true]; omega
    | false => simp only [Bool.false_eq_true, if_false, Bool.toNat_false]; omega
  have e1 : (L * 2 ^ 52 + k) % 2 ^ 52 = k - 2 ^ 52 := by omega
  have e2 : (L * 2 ^ 52 + k) / 2 ^ 52 = L + 1 := by omega
  have hneg : (neg.toNat == 1) = neg := by cases neg <;> rfl
  have n1 : ¬ (L * 2 ^ 52 + k < 2 ^ 52) := by omega
  have n2 : 2 ^ 52 + (k - 2 ^ 52) = k := by omega
  have n3 : (-1074 : Int) + ((L + 1 - 1 : Nat) : Int) = (L : Int) - 1074 := by omega
  simp only [Format.read, sw, hw.1, hw.2, least, binade, inf, n1, if_false, hr, if_true, e1, e2, hneg, n2, n3]
theorem fl_pos (z : Nat) (h : 0 < z) (h' : z < 2 ^ 53) (neg : Bool) : double.write (.number neg z 0) = double.word neg ((1022 + z.log2) * 2 ^ 52 + z * 2 ^ (52 - z.log2)) :=
  nearest_int neg z z 0 (by decide) h h' rfl
theorem kept_range (z : Nat) (h : 0 < z) (h' : z < 2 ^ 53) : z.log2 ≤ 52 ∧ 2 ^ 52 ≤ z * 2 ^ (52 - z.log2) ∧ z * 2 ^ (52 - z.log2) < 2 ^ 53 := by
  have hz0 : z ≠ 0 := by omega
  have hl : z.log2 ≤ 52 := by have := log2_lt hz0 h'; omega
  have h1 : z < 2 ^ (z.log2 + 1) := Nat.lt_log2_self
  have h2 : 2 ^ z.log2 ≤ z := Nat.log2_self_le hz0
  refine ⟨hl, ?_, ?_⟩
  · calc 2 ^ 52 = 2 ^ z.log2 * 2 ^ (52 - z.log2) := by rw [← Nat.pow_add]; congr 1; omega
      _ ≤ _ := Nat.mul_le_mul_right _ h2
  · calc z * 2 ^ (52 - z.log2) < 2 ^ (z.log2 + 1) * 2 ^ (52 - z.log2) := (Nat.mul_lt_mul_right (Nat.two_pow_pos _)).2 h1
      _ = 2 ^ 53 := by rw [← Nat.pow_add]; congr 1; omega
theorem zero_word : fl 0 = 0 := by decide
theorem read_zero : double.read 0 = .number false 0 (-1074) := by decide
theorem fl_ne {z : Int} (h : z ≠ 0) (h' : z.natAbs < 2 ^ 53) : fl z = double.word (decide (z < 0)) ((1022 + z.natAbs.log2) * 2 ^ 52 + z.natAbs * 2 ^ (52 - z.natAbs.log2)) := fl_pos z.natAbs (by omega) h' _
theorem read_fl {z : Int} (h : z ≠ 0) (h' : z.natAbs < 2 ^ 53) : double.read (fl z) = .number (decide (z < 0)) (z.natAbs * 2 ^ (52 - z.natAbs.log2)) ((z.natAbs.log2 : Int) - 52) := by
  obtain ⟨k1, k2, k3⟩ := kept_range z.natAbs (by omega) h'
  rw [fl_ne h h', read_word _ _ _ (by omega) k2 k3]
  congr 1
  omega
/-- What a number of the shape s·m·2^i stands for, in units of 2^-1074. -/
def un (s : Bool) (m : Nat) (i : Int) : Int := Ieee.signed s m (i + 1074).toNat
theorem signed_eq (s : Bool) (m k : Nat) : Ieee.signed s m k = (if s then -1 else 1) * ((m : Int) * 2 ^ k) := by
  unfold Ieee.signed
  cases s <;> simp [Nat.shiftLeft_eq]
theorem read_un {a : Int} (h' : a.natAbs < 2 ^ 53) : ∃ s m i, double.read (fl a) = .number s m i ∧ -1074 ≤ i ∧ i ≤ 0 ∧ un s m i = a * 2 ^ 1074 ∧ s = decide (a < 0) ∧ (a ≠ 0 → m = a.natAbs * 2 ^ (-i).toNat ∧ -52 ≤ i) ∧ (a = 0 → m = 0) := by
  by_cases h : a = 0
  · subst h
    refine ⟨false, 0, -1074, ?_, by decide, by decide, ?_, rfl, fun h => absurd rfl h, fun _ => rfl⟩
    · rw [zero_word, read_zero]
    · rw [un, signed_eq]; simp
  · obtain ⟨k1, k2, k3⟩ := kept_range a.natAbs (by omega) h'
    refine ⟨_, _, _, read_fl h h', by omega, by omega, ?_, rfl, fun _ => ⟨?_, by omega⟩, fun e => absurd e h⟩
    · rw [un, signed_eq]
      have e1 : (((a.natAbs.log2 : Nat) : Int) - 52 + 1074).toNat = 1022 + a.natAbs.log2 := by omega
      rw [e1]
      have e2 : (((a.natAbs * 2 ^ (52 - a.natAbs.log2) : Nat) : Int)) * 2 ^ (1022 + a.natAbs.log2) = (a.natAbs : Int) * 2 ^ 1074 := by
        rw [Int.natCast_mul, Int.mul_assoc, Int.natCast_pow, show ((2 : Nat) : Int) = 2 from rfl, ← Int.pow_add, show 52 - a.natAbs.log2 + (1022 + a.natAbs.log2) = 1074 by omega]
      rw [e2]
      by_cases hn : a < 0
      · rw [decide_eq_true hn, if_pos rfl, ← Int.mul_assoc]; congr 1; omega
      · rw [decide_eq_false hn, if_neg (by decide), ← Int.mul_assoc]; congr 1; omega
    · congr 2; omega
theorem un_shift (s : Bool) (m : Nat) (i base : Int) (h : base ≤ i) (hb : -1074 ≤ base) : Ieee.signed s m (i - base).toNat * 2 ^ (base + 1074).toNat = un s m i := by
  rw [un, signed_eq, signed_eq, Int.mul_assoc, Int.mul_assoc, ← Int.pow_add, show (i - base).toNat + (base + 1074).toNat = (i + 1074).toNat by omega]
theorem pow_pos' (k : Nat) : (0 : Int) < 2 ^ k := Int.pow_pos (by decide)
theorem scale {t z : Int} {k : Nat} (hk : k ≤ 1074) (h : t * 2 ^ k = z * 2 ^ 1074) : (t = 0 ↔ z = 0) ∧ (t < 0 ↔ z < 0) ∧ t.natAbs * 2 ^ k = z.natAbs * 2 ^ 1074 := by
  have e : t = z * 2 ^ (1074 - k) := by
    have : t * 2 ^ k = z * 2 ^ (1074 - k) * 2 ^ k := by rw [Int.mul_assoc, ← Int.pow_add, show 1074 - k + k = 1074 by omega]; exact h
    exact Int.eq_of_mul_eq_mul_right (Int.ne_of_gt (pow_pos' k)) this
  have hp := pow_pos' (1074 - k)
  refine ⟨⟨fun h0 => ?_, fun h0 => by rw [e, h0, Int.zero_mul]⟩, ⟨fun h0 => ?_, fun h0 => ?_⟩, ?_⟩
  · rw [e] at h0
    rcases Int.mul_eq_zero.1 h0 with h1 | h1
    · exact h1
    · omega
  · refine Classical.byContradiction fun hn => ?_
    have := Int.mul_nonneg (show (0 : Int) ≤ z by omega) (Int.le_of_lt hp)
    omega
  · rw [e]; exact Int.mul_neg_of_neg_of_pos h0 hp
  · rw [e, Int.natAbs_mul, Int.natAbs_pow, Nat.mul_assoc]
    rw [show (2 : Int).natAbs = 2 from rfl, ← Nat.pow_add, show 1074 - k + k = 1074 by omega]
/-- A sum is written exactly. -/
theorem sum_int {s t : Bool} {m n : Nat} {i j a b : Int} (hi : -1074 ≤ i) (hi' : i ≤ 0) (hj : -1074 ≤ j) (hj' : j ≤ 0) (ha : un s m i = a * 2 ^ 1074) (hb : un t n j = b * 2 ^ 1074) (h : (a + b).natAbs < 2 ^ 53) (h0 : a + b = 0 → (s && t) = false) :
    ((Datum.number s m i).sum (.number t n j)).map double.write = some (fl (a + b)) := by
  simp only [Datum.sum, Option.map_some, Option.some.injEq]
  generalize hbase : min i j = base
  have hb1 : -1074 ≤ base := by omega
  have hb2 : base ≤ 0 := by omega
  generalize htot : Ieee.signed s m (i - base).toNat + Ieee.signed t n (j - base).toNat = tot
  have e1 : tot * 2 ^ (base + 1074).toNat = (a + b) * 2 ^ 1074 := by
    rw [← htot, Int.add_mul, un_shift s m i base (by omega) hb1, un_shift t n j base (by omega) hb1, ha, hb, Int.add_mul]
  obtain ⟨z1, z2, z3⟩ := scale (by omega) e1
  by_cases hz : a + b = 0
  · rw [if_pos (z1.2 hz), z1.2 hz, h0 hz, hz, zero_word]
    show double.nearest false 0 base = 0
    rw [Format.nearest, if_pos rfl]; rfl
  · rw [if_neg fun e => hz (z1.1 e), fl_ne hz h]
    have : decide (tot < 0) = decide (a + b < 0) := by simp [z2]
    rw [this]
    exact nearest_int _ _ _ base hb1 (by omega) h z3
theorem add_fl {a b : Int} (ha : a.natAbs < 2 ^ 53) (hb : b.natAbs < 2 ^ 53) (h : (a + b).natAbs < 2 ^ 53) : double.add (fl a) (fl b) = some (fl (a + b)) := by
  obtain ⟨s, m, i, h1, h2, h3, h4, h5, _, _⟩ := read_un ha
  obtain ⟨t, n, j, k1, k2, k3, k4, k5, _, _⟩ := read_un hb
  unfold Format.add
  rw [h1, k1]
  refine sum_int h2 h3 k2 k3 h4 k4 h fun e => ?_
  subst h5; subst k5
  by_cases x : a < 0
  · rw [decide_eq_false (show ¬ b < 0 by omega), Bool.and_false]
  · rw [decide_eq_false x, Bool.false_and]
theorem un_not (s : Bool) (m : Nat) (i : Int) : un (!s) m i = - un s m i := by
  rw [un, un, signed_eq, signed_eq]; cases s <;> simp
theorem sub_fl {a b : Int} (ha : a.natAbs < 2 ^ 53) (hb : b.natAbs < 2 ^ 53) (h : (a - b).natAbs < 2 ^ 53) : double.sub (fl a) (fl b) = some (fl (a - b)) := by
  obtain ⟨s, m, i, h1, h2, h3, h4, h5, _, _⟩ := read_un ha
  obtain ⟨t, n, j, k1, k2, k3, k4, k5, _, _⟩ := read_un hb
  unfold Format.sub
  rw [h1, k1]
  have := sum_int (t := !t) (n := n) (j := j) (b := -b) h2 h3 k2 k3 h4 (by rw [un_not, k4, Int.neg_mul]) (by rw [← Int.sub_eq_add_neg]; exact h) fun e => by
    subst h5; subst k5
    have : a = b := by omega
    subst this
    cases decide (a < 0) <;> rfl
  rw [← Int.sub_eq_add_neg] at this
  exact this
theorem mul_fl {a b : Int} (ha : a.natAbs < 2 ^ 53) (hb : b.natAbs < 2 ^ 53) (ha0 : a ≠ 0) (hb0 : b ≠ 0) (h : (a * b).natAbs < 2 ^ 53) : double.mul (fl a) (fl b) = some (fl (a * b)) := by
  obtain ⟨s, m, i, h1, h2, h3, h4, h5, h6, _⟩ := read_un ha
  obtain ⟨t, n, j, k1, k2, k3, k4, k5, k6, _⟩ := read_un hb
  obtain ⟨m1, m2⟩ := h6 ha0
  obtain ⟨n1, n2⟩ := k6 hb0
  unfold Format.mul
  rw [h1, k1]
  simp only [Datum.product, Option.map_some, Option.some.injEq]
  have hab : a * b ≠ 0 := Int.mul_ne_zero ha0 hb0
  rw [fl_ne hab h]
  have hs : (s ^^ t) = decide (a * b < 0) := by
    subst h5; subst k5
    by_cases x : a < 0 <;> by_cases y : b < 0
    · have := Int.mul_pos_of_neg_of_neg x y
      rw [decide_eq_true x, decide_eq_true y, decide_eq_false (by omega)]; rfl
    · have := Int.mul_neg_of_neg_of_pos x (show 0 < b by omega)
      rw [decide_eq_true x, decide_eq_false y, decide_eq_true this]; rfl
    · have := Int.mul_neg_of_pos_of_neg (show 0 < a by omega) y
      rw [decide_eq_false x, decide_eq_true y, decide_eq_true this]; rfl
    · have := Int.mul_pos (show 0 < a by omega) (show 0 < b by omega)
      rw [decide_eq_false x, decide_eq_false y, decide_eq_false (by omega)]; rfl
  rw [← hs]
  refine nearest_int _ _ _ (i + j) (by omega) (Int.natAbs_pos.2 hab) h ?_
  rw [m1, n1, Int.natAbs_mul]
  rw [show a.natAbs * 2 ^ (-i).toNat * (b.natAbs * 2 ^ (-j).toNat) * 2 ^ (i + j + 1074).toNat = a.natAbs * b.natAbs * (2 ^ (-i).toNat * 2 ^ (-j).toNat * 2 ^ (i + j + 1074).toNat) by ac_rfl, ← Nat.pow_add, ← Nat.pow_add, show (-i).toNat + (-j).toNat + (i + j + 1074).toNat = 1074 by omega]
theorem toInt_fl {a : Int} (ha : a.natAbs < 2 ^ 53) : (double.read (fl a)).toInt .zero = some a := by
  obtain ⟨s, m, i, h1, h2, h3, h4, h5, h6, h7⟩ := read_un ha
  rw [h1]
  unfold Datum.toInt Datum.integral
  simp only
  rw [show i.toNat = 0 by omega, Nat.shiftLeft_zero]
  by_cases h : a = 0
  · rw [h7 h]
    subst h
    have : Toward.zero.cut s 0 (-i).toNat = 0 := by unfold Toward.cut; simp
    rw [this, signed_eq]; simp
  · obtain ⟨m1, m2⟩ := h6 h
    have hz : a.natAbs ≠ 0 := by omega
    have hc : Toward.zero.cut s m (-i).toNat = a.natAbs := by
      unfold Toward.cut
      have hl : m.log2 = a.natAbs.log2 + (-i).toNat := by rw [m1, log2_mul _ _ hz]
      rw [Nat.min_eq_left (by omega), Nat.one_shiftLeft, m1]
      show a.natAbs * 2 ^ (-i).toNat / 2 ^ (-i).toNat + 0 = a.natAbs
      rw [Nat.mul_div_cancel _ (Nat.two_pow_pos _)]; rfl
    rw [hc, signed_eq, h5]
    congr 1
    by_cases hn : a < 0
    · rw [decide_eq_true hn, if_pos rfl]; omega
    · rw [decide_eq_false hn, if_neg (by decide)]; omega
end Go.Gv.Fl
end
section
namespace Go.Gv
open Go.RowKit Fl
abbrev vf (a : Int) : Value := .float .f64 (fl a)
abbrev vc2 (a b : Int) : Value := .complex .f64 (fl a) (fl b)
abbrev fv (a : Int) : AV := .d (.v (vf a))
abbrev cx (a b : Int) : AV := .d (.v (vc2 a b))
def sm (z : Int) : Prop := z.natAbs < 2 ^ 53
section
variable {P : Program}
theorem eqGuard_c {op : BinOp} {tt : TypeId} {ox oy : Operand} {k k' : FloatKind} {a b c d : Nat} {w : World} : (eqGuard op tt ox oy (.complex k a b) (.complex k' c d)).run P w = .ok () w := by
  cases op <;> simp [eqGuard]
theorem f_add {a b : Int} (ha : sm a) (hb : sm b) (h : sm (a + b)) : FloatKind.f64.format.add (fl a) (fl b) = some (fl (a + b)) := add_fl ha hb h
theorem f_sub {a b : Int} (ha : sm a) (hb : sm b) (h : sm (a - b)) : FloatKind.f64.format.sub (fl a) (fl b) = some (fl (a - b)) := sub_fl ha hb h
theorem f_mul {a b : Int} (ha : sm a) (hb : sm b) (ha0 : a ≠ 0) (hb0 : b ≠ 0) (h : sm (a * b)) : FloatKind.f64.format.mul (fl a) (fl b) = some (fl (a * b)) := mul_fl ha hb ha0 hb0 h
theorem B.cadd {tt : TypeId} {a b c d : Int} (h1 : sm a) (h2 : sm b) (h3 : sm c) (h4 : sm d) (h5 : sm (a + c)) (h6 : sm (b + d)) : BinRun P .add tt (vc2 a b) (vc2 c d) (vc2 (a + c) (b + d)) :=
  ⟨rfl, fun ox oy w => by simp [eqGuard_c, binOp, Op.complexOp, Op.Complex.arith, Op.floatArith, f_add h1 h3 h5, f_add h2 h4 h6]⟩
theorem B.cmul {tt : TypeId} {a b c d : Int} (h1 : sm a) (h2 : sm b) (h3 : sm c) (h4 : sm d) (a0 : a ≠ 0) (b0 : b ≠ 0) (c0 : c ≠ 0) (d0 : d ≠ 0) (m1 : sm (a * c)) (m2 : sm (b * d)) (m3 : sm (a * d)) (m4 : sm (b * c)) (h5 : sm (a * c - b * d)) (h6 : sm (a * d + b * c)) :
    BinRun P .mul tt (vc2 a b) (vc2 c d) (vc2 (a * c - b * d) (a * d + b * c)) :=
  ⟨rfl, fun ox oy w => by
    simp [eqGuard_c, binOp, Op.complexOp, Op.Complex.arith, Op.Complex.conv, Op.Complex.product, Op.Complex.add, Op.Complex.sub, Op.Complex.mul, Op.floatArith, f_mul h1 h3 a0 c0 m1, f_mul h2 h4 b0 d0 m2, f_mul h1 h4 a0 d0 m3, f_mul h2 h3 b0 c0 m4, f_sub m1 m2 h5, f_add m3 m4 h6]⟩
theorem conv_fi {src dst : TypeId} {z : Int} {d : TypeDesc} (hs : P.underlying src = some d) (hd : P.underlying dst = some (.int .i64)) (h : sm z) (w : World) : (convert src dst (vf z)).run P w = .ok (.int .i64 z) w := by
  have hz : -9223372036854775808 ≤ z ∧ z ≤ 9223372036854775807 := by unfold sm at h; omega
  have e : (FloatKind.f64.decode (fl z)).toInt .zero = some z := toInt_fl h
  have hr : IntKind.i64.min ≤ z ∧ z ≤ IntKind.i64.max := hz
  simp [convert, underlying, hs, hd, Conv.floatToInt, e, hr]
  intro hlt; omega
end
section
variable {X : Cx} {d : Option Nat} {ty : TypeId} {pos : String} {aft : Array Edge} {g : Option (Nat × Bool)} {t : T} {σ : Sg}
theorem O.complex {x y : Operand} {tys : Array TypeId} {a b : Int} (hx : ge t x = some (fv a)) (hy : ge t y = some (fv b)) : QJ X ⟨d, .call { callee := .builtin .complex, args := #[x, y], argTypes := tys }, ty, pos, aft, g⟩ t σ (cx a b) :=
  O.bi2 hx hy (fun cs w => rfl) rfl
theorem O.convFI {src dst : TypeId} {x : Operand} {z : Int} {de : TypeDesc} (hx : ge t x = some (fv z)) (hs : X.P.underlying src = some de) (hd : X.P.underlying dst = some (.int .i64)) (h : sm z) : QJ X ⟨d, .convert src dst x, ty, pos, aft, g⟩ t σ (.d (.v (.int .i64 z))) :=
  O.conv hx (conv_fi hs hd h) rfl
end
end Go.Gv
end
section
open Go Go.Gv Go.Gv.Fl
attribute [local irreducible] Go.Gv.WJ Go.Gv.OpJ Go.Gv.QJ Go.Gv.Spl Go.Gv.Req Go.Gv.IdxP Go.Gv.RegP Go.Gv.FinP Go.Gv.CellP Go.Gv.CellsP Go.Gv.ArrP Go.Gv.ArrsP Go.Gv.DropP Go.Gv.ByteP Go.Gv.StoreP
set_option maxRecDepth 100000
namespace Go.Proofs.E
structure TL where
  n : Int
  a : Int
  b : Int
  c : Int
  d : Int
abbrev tlv (t : TL) : AV := .agg [iv t.n, cx t.a t.b, cx t.c t.d]
def TL.ok (t : TL) : Prop := 0 ≤ t.n ∧ t.n ≤ 4096 ∧ t.a.natAbs ≤ t.n.toNat * 1048576 ∧ t.b.natAbs ≤ t.n.toNat * 1000 ∧ t.c.natAbs ≤ t.n.toNat * 1099511627776 ∧ t.d.natAbs ≤ t.n.toNat * 2147483648
def TL.add (t u : TL) : TL := ⟨t.n + u.n, t.a + u.a, t.b + u.b, t.c + u.c, t.d + u.d⟩
def TL.sub (t u : TL) : TL := ⟨t.n - u.n, t.a - u.a, t.b - u.b, t.c - u.c, t.d - u.d⟩
def TL.one (x : ID) : TL := ⟨1, x.c, x.s, x.c * x.c - x.s * x.s, x.c * x.s + x.s * x.c⟩
def TL.zero : TL := ⟨0, 0, 0, 0, 0⟩
theorem TL.ok_sm {t : TL} (h : t.ok) : sm t.a ∧ sm t.b ∧ sm t.c ∧ sm t.d := by
  obtain ⟨h1, h2, h3, h4, h5, h6⟩ := h
  unfold sm
  refine ⟨?_, ?_, ?_, ?_⟩ <;> omega
theorem TL.ok_add {t u : TL} (h : t.ok) (k : u.ok) (hn : t.n + u.n ≤ 4096) : (t.add u).ok := by
  obtain ⟨h1, h2, h3, h4, h5, h6⟩ := h
  obtain ⟨k1, k2, k3, k4, k5, k6⟩ := k
  unfold TL.ok TL.add
  simp only
  refine ⟨?_, ?_, ?_, ?_, ?_, ?_⟩ <;> omega
theorem OfT_c (x : ID) : Cv 270 [idv x] (cx x.c x.s) := by
  refine Ct.of_vc Tryz.f270 Tryz.func270 rfl rfl fun w H B g0 => ?_
  refine OpJ.qu (O.complex (a := x.c) (b := x.s) rfl rfl) rfl ?_
  exact FinP.open rfl rfl
theorem And_c (t u : TL) (h : t.ok) (k : u.ok) : Cv 271 [tlv t, tlv u] (if t.n + u.n ≤ 4096 then .tup [tlv (t.add u), iv 0] else .tup [tlv TL.zero, iv 7]) := by
  have hw : IntKind.i64.wrap (t.n + u.n) = t.n + u.n := by obtain ⟨_, _, _⟩ := h; obtain ⟨_, _, _⟩ := k; exact wrap_id _ (by omega) (by omega)
  obtain ⟨a1, a2, a3, a4⟩ := TL.ok_sm h
  obtain ⟨b1, b2, b3, b4⟩ := TL.ok_sm k
  refine Ct.of_vc Tryz.f271 Tryz.func271 rfl rfl fun w H B g0 => ?_
  refine Spl.of (fun e => ?_) (fun e => ?_)
  · have : ¬ t.n + u.n ≤ 4096 := by have := of_decide_eq_true e; rw [hw] at this; omega
    rw [if_neg this]
    exact FinP.open rfl rfl
  · have hle : t.n + u.n ≤ 4096 := by have := of_decide_eq_false e; rw [hw] at this; omega
    obtain ⟨c1, c2, c3, c4⟩ := TL.ok_sm (TL.ok_add h k hle)
    rw [if_pos hle]
    (repeat (first | refine Spl.t rfl ?_ | refine Spl.f rfl ?_))
    refine OpJ.qu (O.bin rfl rfl (Gv.B.cadd a1 a2 b1 b2 c1 c2)) rfl ?_
    refine OpJ.qu (O.bin rfl rfl (Gv.B.cadd a3 a4 b3 b4 c3 c4)) rfl ?_
    refine FinP.open rfl ?_
    show AV.tup [.agg [iv (IntKind.i64.wrap (t.n + u.n)), _, _], _] = _
    rw [hw]; rfl
end Go.Proofs.E
end
section
open Go Go.Gv Go.Gv.Fl
attribute [local irreducible] Go.Gv.WJ Go.Gv.OpJ Go.Gv.QJ Go.Gv.Spl Go.Gv.Req Go.Gv.IdxP Go.Gv.RegP Go.Gv.FinP Go.Gv.CellP Go.Gv.CellsP Go.Gv.ArrP Go.Gv.ArrsP Go.Gv.DropP Go.Gv.ByteP Go.Gv.StoreP
set_option maxRecDepth 100000
namespace Go.Proofs.E
theorem mul_rng {a b m n : Int} (h1 : 1 ≤ a) (h2 : a ≤ m) (h3 : 1 ≤ b) (h4 : b ≤ n) : 1 ≤ a * b ∧ a * b ≤ m * n :=
  ⟨by have := Int.mul_le_mul h1 h3 (by omega) (by omega); simpa using this, Int.mul_le_mul h2 h4 (by omega) (by omega)⟩
theorem one_rng {x : ID} (h : mayI x = true) : (1 ≤ x.c * x.c ∧ x.c * x.c ≤ 1099511627776) ∧ (1 ≤ x.s * x.s ∧ x.s * x.s ≤ 1000000) ∧ (1 ≤ x.c * x.s ∧ x.c * x.s ≤ 1048576000) ∧ (1 ≤ x.s * x.c ∧ x.s * x.c ≤ 1048576000) := by
  obtain ⟨a1, a2, a3, a4⟩ := mayI_iff h
  exact ⟨mul_rng a1 a2 a1 a2, mul_rng a3 a4 a3 a4, mul_rng a1 a2 a3 a4, mul_rng a3 a4 a1 a2⟩
theorem one_ok {x : ID} (h : mayI x = true) : (TL.one x).ok := by
  obtain ⟨a1, a2, a3, a4⟩ := mayI_iff h
  obtain ⟨h1, h2, h3, h4⟩ := one_rng h
  unfold TL.ok TL.one
  simp only
  refine ⟨by omega, by omega, ?_, ?_, ?_, ?_⟩
  · show x.c.natAbs ≤ 1 * 1048576; omega
  · show x.s.natAbs ≤ 1 * 1000; omega
  · show (x.c * x.c - x.s * x.s).natAbs ≤ 1 * 1099511627776; omega
  · show (x.c * x.s + x.s * x.c).natAbs ≤ 1 * 2147483648; omega
theorem PutT_c (t : TL) (x : ID) (h : t.ok) : Cv 247 [tlv t, idv x] (if mayI x = true then (if t.n + (TL.one x).n ≤ 4096 then .tup [tlv (t.add (TL.one x)), iv 0] else .tup [tlv TL.zero, iv 7]) else .tup [tlv TL.zero, iv 2]) := by
  refine Ct.of_vc Tryz.f247 Tryz.func247 rfl rfl fun w H B g0 => ?_
  refine OpJ.callV (Check_c x) (fun _ _ => rfl) rfl rfl rfl ?_
  (repeat (first | refine Spl.t rfl ?_ | refine Spl.f rfl ?_))
  refine Spl.of (fun e => ?_) (fun e => ?_)
  · have hm : ¬ mayI x = true := fun y => by simp [checkI, y] at e
    rw [if_neg hm]
    refine FinP.open rfl ?_
    show AV.tup [_, iv (checkI x)] = _
    rw [checkI, if_neg hm]; rfl
  · have hm : mayI x = true := by
      cases y : mayI x with
      | true => rfl
      | false => simp [checkI, y] at e
    obtain ⟨a1, a2, a3, a4⟩ := mayI_iff hm
    obtain ⟨h1, h2, h3, h4⟩ := one_rng hm
    rw [if_pos hm]
    (repeat (first | refine Spl.t rfl ?_ | refine Spl.f rfl ?_))
    refine OpJ.callV (OfT_c x) (fun _ _ => rfl) rfl rfl rfl ?_
    (repeat (first | refine Spl.t rfl ?_ | refine Spl.f rfl ?_))
    refine OpJ.qu (O.bin rfl rfl (Gv.B.cmul (by unfold sm; omega) (by unfold sm; omega) (by unfold sm; omega) (by unfold sm; omega) (by omega) (by omega) (by omega) (by omega) (by unfold sm; omega) (by unfold sm; omega) (by unfold sm; omega) (by unfold sm; omega) (by unfold sm; omega) (by unfold sm; omega))) rfl ?_
    have hc := And_c t (TL.one x) h (one_ok hm)
    by_cases hn : t.n + (TL.one x).n ≤ 4096
    · rw [if_pos hn] at hc ⊢
      refine OpJ.callV hc (fun _ _ => rfl) rfl rfl rfl ?_
      exact FinP.open rfl rfl
    · rw [if_neg hn] at hc ⊢
      refine OpJ.callV hc (fun _ _ => rfl) rfl rfl rfl ?_
      exact FinP.open rfl rfl
end Go.Proofs.E
end
section
open Go Go.Gv Go.Gv.Fl
attribute [local irreducible] Go.Gv.WJ Go.Gv.OpJ Go.Gv.QJ Go.Gv.Spl Go.Gv.Req Go.Gv.IdxP Go.Gv.RegP Go.Gv.FinP Go.Gv.CellP Go.Gv.CellsP Go.Gv.ArrP Go.Gv.ArrsP Go.Gv.DropP Go.Gv.ByteP Go.Gv.StoreP
set_option maxRecDepth 100000
namespace Go.Proofs.E
abbrev strD (x : List UInt8) : List D := [.v (.string ⟨⟨x⟩⟩)]
theorem repd_v {H : HF} {x u : Value} (r : RepD H (.v x) u) : u = x := by cases r; rfl
theorem Join_c (xs : List (List UInt8)) (sep : List UInt8) (h0 : xs ≠ []) (h1 : xs.length ≤ 1000000) (h2 : (Lib.join xs sep).length ≤ 100000000) :
    Cv 253 [.d (.sl 1 (xs.map strD)), sv sep] (sv (Lib.join xs sep)) :=
  Ct.of_calls fun γ H w vs hΛ hok hl hr => by
    obtain ⟨v0, v1, rfl⟩ : ∃ a b, vs = [a, b] := by
      match vs, hl with
      | [a, b], _ => exact ⟨a, b, rfl⟩
    have r0 := rep_d (hr 0 _ v0 rfl rfl)
    obtain rfl := rep_v (hr 1 _ v1 rfl rfl)
    have hm := Mem.start hok γ
    cases r0 with
    | sl _ _ A c b o us hk hn hc hA hH hrep =>
      have hlen : 0 < (xs.map strD).length := by simp; exact List.length_pos_iff.2 h0
      obtain rfl := hA hlen
      have hcell : ∀ (j : Nat) (x : ByteArray), (xs.map fun x => (⟨⟨x⟩⟩ : ByteArray))[j]? = some x → w.cell? ⟨b, o + j, none⟩ = some (.string x) := fun j x hx => by
        simp only [List.getElem?_map, Option.map_eq_some_iff] at hx
        obtain ⟨l, hl, rfl⟩ := hx
        have hj : j < (xs.map strD).length := by simp; exact (List.getElem?_eq_some_iff.1 hl).1
        have e1 := hok.c _ _ _ (hH j 0 hj (by decide))
        have e2 := repd_v (hrep j 0 (strD l) (.v (.string ⟨⟨l⟩⟩)) (by simp [hl]) rfl)
        rw [Nat.mul_one, Nat.add_zero, e2] at e1
        exact e1
      have hlt : b < w.heap.size := lt_of_cell (hok.c _ _ _ (hH 0 0 hlen (by decide)))
      have e0 : (xs.map fun x => (⟨⟨x⟩⟩ : ByteArray)).length = (xs.map strD).length := by simp
      have e3 : (xs.map fun x => (⟨⟨x⟩⟩ : ByteArray)).map (fun x => x.data.toList) = xs := by simp [List.map_map, Function.comp_def]
      have key := Tryz.strings_Join b o c (xs.map fun x => ⟨⟨x⟩⟩) ⟨⟨sep⟩⟩ w hcell hlt (by simp; omega) (by rw [e0]; exact hn) (by rw [e3]; exact Nat.le_trans h2 (by decide))
      rw [e3, e0] at key
      refine key.mono fun e w' ⟨he, hb⟩ => ⟨_, H, he, .d _ _ (.v _ rfl), hm.quiet (keeps_below hb)⟩
theorem itoa_le (n : Int) (h : n.natAbs < 10 ^ 18) : (Lib.itoa n).length ≤ 19 := by
  unfold Lib.itoa
  split
  · simp only [List.length_cons]
    have := decDigits_len n.natAbs 18 h (by decide)
    omega
  · have := decDigits_len n.toNat 18 (by omega) (by decide)
    omega
def textT (t : TL) : List UInt8 := Lib.join [Lib.itoa t.n, Lib.itoa t.a, Lib.itoa t.b, Lib.itoa t.c, Lib.itoa t.d] [32]
def strsT (t : TL) : List (List UInt8) := [Lib.itoa t.n, Lib.itoa t.a, Lib.itoa t.b, Lib.itoa t.c, Lib.itoa t.d]
def T0T (t : TL) (i : Nat) : T := [(24, iv i), (3, match i with | 0 => .full 1 [strD (Lib.itoa t.n)] | i + 1 => .arr 33 1 (i + 2))]
def S0T (t : TL) (i : Nat) : Sg := match i with | 0 => [] | i + 1 => [(33, .arr 1 (((strsT t).take (i + 2)).map strD))]
set_option profiler true in
set_option maxHeartbeats 2000000 in
theorem StringT_c (t : TL) (h : t.ok) : Cv 215 [tlv t] (sv (textT t)) := by
  obtain ⟨a1, a2, a3, a4⟩ := TL.ok_sm h
  have hn := h.1
  have hn' := h.2.1
  have itoa : ∀ z, sm z → Cv 251 [iv z, iv 10] (sv (Lib.itoa z)) := fun z hz => FormatInt_c z (by unfold sm at hz; omega) (by unfold sm at hz; omega)
  refine Ct.of_vc Tryz.f215 Tryz.func215 rfl rfl fun w H B g0 => ?_
  refine OpJ.callV (Itoa_c t.n (by omega) (by omega)) (fun _ _ => rfl) rfl rfl rfl ?_
  refine WJ.loopF (V := Nat) (T0T t) (S0T t) (fun i => 4 - i) (fun i => i ≤ 4) 0 (by omega) (by repeat' (first | exact trivial | exact rfl | refine And.intro ?_ ?_)) (by repeat' (first | exact trivial | exact rfl | refine And.intro ?_ ?_)) ?_
  intro i hi
  refine Spl.of (fun h => ?_) (fun h => ?_)
  · have hlt : i < 4 := by have := of_decide_eq_true h; change (i : Int) < 4 at this; omega
    match i, hlt with
    | 0, _ =>
      (repeat (first | refine Spl.t rfl ?_ | refine Spl.f rfl ?_))
      refine IdxP.of [.v (vf t.a)] (by decide) rfl ?_
      refine OpJ.qu (O.convFI rfl rfl rfl a1) rfl ?_
      refine OpJ.callV (itoa _ a1) (fun _ _ => rfl) rfl rfl rfl ?_
      refine O.appF (k := 1) rfl rfl (.full 1 _) rfl rfl rfl rfl (by show 1 + 1 ≤ 1000000000; decide) (.inl (List.cons_ne_nil _ _)) ?_
      exact ⟨1, by decide, by decide, (by repeat' (first | exact trivial | exact rfl | refine And.intro ?_ ?_)), (by repeat' (first | exact trivial | exact rfl | refine And.intro ?_ ?_))⟩
    | 1, _ =>
      (repeat (first | refine Spl.t rfl ?_ | refine Spl.f rfl ?_))
      refine IdxP.of [.v (vf t.b)] (by decide) rfl ?_
      refine OpJ.qu (O.convFI rfl rfl rfl a2) rfl ?_
      refine OpJ.callV (itoa _ a2) (fun _ _ => rfl) rfl rfl rfl ?_
      refine Req.of ⟨rfl, Nat.le_of_ble_eq_true rfl⟩ ?_
      exact ⟨2, by decide, by decide, (by repeat' (first | exact trivial | exact rfl | refine And.intro ?_ ?_)), (by repeat' (first | exact trivial | exact rfl | refine And.intro ?_ ?_))⟩
    | 2, _ =>
      (repeat (first | refine Spl.t rfl ?_ | refine Spl.f rfl ?_))
      refine IdxP.of [.v (vf t.c)] (by decide) rfl ?_
      refine OpJ.qu (O.convFI rfl rfl rfl a3) rfl ?_
      refine OpJ.callV (itoa _ a3) (fun _ _ => rfl) rfl rfl rfl ?_
      refine Req.of ⟨rfl, Nat.le_of_ble_eq_true rfl⟩ ?_
      exact ⟨3, by decide, by decide, (by repeat' (first | exact trivial | exact rfl | refine And.intro ?_ ?_)), (by repeat' (first | exact trivial | exact rfl | refine And.intro ?_ ?_))⟩
    | 3, _ =>
      (repeat (first | refine Spl.t rfl ?_ | refine Spl.f rfl ?_))
      refine IdxP.of [.v (vf t.d)] (by decide) rfl ?_
      refine OpJ.qu (O.convFI rfl rfl rfl a4) rfl ?_
      refine OpJ.callV (itoa _ a4) (fun _ _ => rfl) rfl rfl rfl ?_
      refine Req.of ⟨rfl, Nat.le_of_ble_eq_true rfl⟩ ?_
      exact ⟨4, by decide, by decide, (by repeat' (first | exact trivial | exact rfl | refine And.intro ?_ ?_)), (by repeat' (first | exact trivial | exact rfl | refine And.intro ?_ ?_))⟩
  · have he : i = 4 := by have := of_decide_eq_false h; change ¬ (i : Int) < 4 at this; omega
    subst he
    (repeat (first | refine Spl.t rfl ?_ | refine Spl.f rfl ?_))
    refine OpJ.shift (SJ.pubA 33 35 rfl rfl (Nat.le_of_ble_eq_true rfl) (by decide)) ?_
    refine OpJ.callV (Join_c (strsT t) [32] (by simp [strsT]) (by simp [strsT]) ?_) (fun _ _ => rfl) rfl rfl rfl ?_
    · have b1 := itoa_le t.n (by omega)
      have b2 := itoa_le t.a (by unfold sm at a1; omega)
      have b3 := itoa_le t.b (by unfold sm at a2; omega)
      have b4 := itoa_le t.c (by unfold sm at a3; omega)
      have b5 := itoa_le t.d (by unfold sm at a4; omega)
      simp [strsT, Lib.join, List.intercalate, List.intersperse]
      omega
    exact FinP.open rfl rfl
end Go.Proofs.E
end
section
open Go Go.Gv Go.Gv.Fl
attribute [local irreducible] Go.Gv.WJ Go.Gv.OpJ Go.Gv.QJ Go.Gv.Spl Go.Gv.Req Go.Gv.IdxP Go.Gv.RegP Go.Gv.FinP Go.Gv.CellP Go.Gv.CellsP Go.Gv.ArrP Go.Gv.ArrsP Go.Gv.DropP Go.Gv.ByteP Go.Gv.StoreP
set_option maxRecDepth 100000
namespace Go.Proofs.E
theorem Awake2_c : Cv 204 [] (bv true) := by
  have h0 : TL.zero.ok := by unfold TL.ok; decide
  have hp := PutT_c TL.zero ⟨3, 2⟩ h0
  rw [if_pos (by decide), if_pos (by decide)] at hp
  refine Ct.of_vc Tryz.f204 Tryz.func204 rfl rfl fun w H B g0 => ?_
  refine OpJ.callV hp (fun _ _ => rfl) rfl rfl rfl ?_
  refine OpJ.callV Awake_c (fun _ _ => rfl) rfl rfl rfl ?_
  (repeat (first | refine Spl.t rfl ?_ | refine Spl.f rfl ?_))
  refine OpJ.callV (StringT_c _ (by unfold TL.ok; decide)) (fun _ _ => rfl) rfl rfl rfl ?_
  (repeat (first | refine Spl.t rfl ?_ | refine Spl.f rfl ?_))
  refine FinP.open rfl (congrArg bv ?_)
  decide +kernel
def TL.mul (k : Int) (x : ID) : TL := ⟨k, k * x.c, k * x.s, k * (x.c * x.c - x.s * x.s), k * (x.c * x.s + x.s * x.c)⟩
theorem TL.mul_one (x : ID) : TL.mul 1 x = TL.one x := by simp [TL.mul, TL.one]
theorem TL.back (t : TL) (x : ID) : (t.sub (TL.one x)).add (TL.one x) = t := by
  simp only [TL.sub, TL.add, TL.one]
  cases t
  simp
end Go.Proofs.E
end
section
open Go Go.Gv Go.Gv.Fl
attribute [local irreducible] Go.Gv.WJ Go.Gv.OpJ Go.Gv.QJ Go.Gv.Spl Go.Gv.Req Go.Gv.IdxP Go.Gv.RegP Go.Gv.FinP Go.Gv.CellP Go.Gv.CellsP Go.Gv.ArrP Go.Gv.ArrsP Go.Gv.DropP Go.Gv.ByteP Go.Gv.StoreP
set_option maxRecDepth 100000
namespace Go.Proofs.E
def TL.sum : List ID → TL
  | [] => TL.zero
  | x :: l => (TL.sum l).add (TL.one x)
theorem TL.add_comm (t u : TL) : t.add u = u.add t := by
  simp only [TL.add, TL.mk.injEq]; omega
theorem TL.add_assoc (t u v : TL) : (t.add u).add v = t.add (u.add v) := by
  simp only [TL.add, TL.mk.injEq]; omega
theorem TL.zero_add (t : TL) : TL.zero.add t = t := by cases t; simp [TL.zero, TL.add]
theorem TL.sum_app : ∀ (l m : List ID), TL.sum (l ++ m) = (TL.sum l).add (TL.sum m)
  | [], m => by rw [List.nil_append, TL.sum, TL.zero_add]
  | x :: l, m => by
    rw [List.cons_append, TL.sum, TL.sum, TL.sum_app l m, TL.add_assoc, TL.add_comm (TL.sum m), ← TL.add_assoc]
theorem TL.sum_one (x : ID) : TL.sum [x] = TL.one x := by rw [TL.sum, TL.sum, TL.zero_add]
theorem TL.sum_snoc (l : List ID) (x : ID) : TL.sum (l ++ [x]) = (TL.sum l).add (TL.one x) := by rw [TL.sum_app, TL.sum_one]
theorem TL.sum_n : ∀ (l : List ID), (TL.sum l).n = l.length
  | [] => rfl
  | x :: l => by rw [TL.sum]; show (TL.sum l).n + 1 = _; rw [TL.sum_n l]; simp
theorem TL.sum_ok : ∀ (l : List ID), (∀ x, x ∈ l → mayI x = true) → l.length ≤ 4096 → (TL.sum l).ok
  | [], _, _ => by unfold TL.ok; decide
  | x :: l, h, hl => by
    have h1 := TL.sum_ok l (fun y hy => h y (List.mem_cons_of_mem _ hy)) (by simp at hl; omega)
    refine TL.ok_add h1 (one_ok (h x (by simp))) ?_
    rw [TL.sum_n]; simp at hl; show (l.length : Int) + 1 ≤ 4096; omega
theorem PutOk_c (t : TL) (x : ID) (h : t.ok) (hm : mayI x = true) (hn : t.n + 1 ≤ 4096) : Cv 247 [tlv t, idv x] (.tup [tlv (t.add (TL.one x)), iv 0]) := by
  have := PutT_c t x h
  rw [if_pos hm, if_pos (by show t.n + 1 ≤ 4096; exact hn)] at this
  exact this
end Go.Proofs.E
end
section
open Go Go.Gv
attribute [local irreducible] Go.Gv.WJ Go.Gv.OpJ Go.Gv.QJ Go.Gv.Spl Go.Gv.Req Go.Gv.IdxP Go.Gv.RegP Go.Gv.FinP Go.Gv.CellP Go.Gv.CellsP Go.Gv.ArrP Go.Gv.ArrsP Go.Gv.DropP Go.Gv.ByteP Go.Gv.StoreP
set_option maxRecDepth 100000
namespace Go.Proofs.E
end Go.Proofs.E
end
section
open Go Go.Gv
attribute [local irreducible] Go.Gv.WJ Go.Gv.OpJ Go.Gv.QJ Go.Gv.Spl Go.Gv.Req Go.Gv.IdxP Go.Gv.RegP Go.Gv.FinP Go.Gv.CellP Go.Gv.CellsP Go.Gv.ArrP Go.Gv.ArrsP Go.Gv.DropP Go.Gv.ByteP Go.Gv.StoreP
set_option maxRecDepth 100000
namespace Go.Proofs.E
attribute [local irreducible] elems
def deadL (L : List EL) : Nat := (L.filter fun e => e.dead).length
theorem Dn.rowlen : ∀ {l : List OP}, Dn l → l.length = (rowE l).length + deadL (rowE l) := by
  intro l h
  induction h with
  | nil => rfl
  | @snoc l o h hw ih =>
    obtain ⟨_, h1⟩ := wrong_0 hw
    rcases h1 with ⟨hk, _⟩ | ⟨hk, _⟩
    · obtain ⟨n, ch, _, hg, _, hr, _⟩ := row_del h hw hk
      have hn := (List.getElem?_eq_some_iff.1 hg).1
      have e1 := (List.take_append_drop n (rowE l)).symm
      have e2 : (rowE l).drop n = ⟨o.i, ch, false⟩ :: (rowE l).drop (n + 1) := by
        rw [List.drop_eq_getElem_cons hn]
        rw [(List.getElem?_eq_some_iff.1 hg).2]
      have e3 : (rowE l).set n ⟨o.i, ch, true⟩ = (rowE l).take n ++ ⟨o.i, ch, true⟩ :: (rowE l).drop (n + 1) := List.set_eq_take_append_cons_drop .. |>.trans (if_pos hn)
      have h2 : deadL (rowE l) = deadL ((rowE l).take n) + deadL ((rowE l).drop (n + 1)) := by
        conv => lhs; rw [e1, e2]
        unfold deadL
        rw [List.filter_append, List.length_append, List.filter_cons]; simp
      have h3 : deadL ((rowE l).set n ⟨o.i, ch, true⟩) = deadL ((rowE l).take n) + (deadL ((rowE l).drop (n + 1)) + 1) := by
        rw [e3]
        unfold deadL
        rw [List.filter_append, List.length_append, List.filter_cons]; simp
      rw [hr, h3, List.length_set, List.length_append, ih, h2]; simp; omega
    · rw [row_ins h hw hk]
      have h2 : deadL (rowE l) = deadL ((rowE l).take (posO l o)) + deadL ((rowE l).drop (posO l o)) := by
        unfold deadL
        rw [← List.length_append, ← List.filter_append, List.take_append_drop]
      have h3 : deadL ((rowE l).take (posO l o) ++ ⟨o.i, o.ch, false⟩ :: (rowE l).drop (posO l o)) = deadL ((rowE l).take (posO l o)) + deadL ((rowE l).drop (posO l o)) := by
        unfold deadL
        rw [List.filter_append, List.length_append, List.filter_cons]; simp
      have hp := posO_le h hw hk
      rw [h3, ← h2, List.length_append, ih]; simp; omega
theorem Dn.len2 {l : List OP} (h : Dn l) : l.length ≤ 8192 := by
  have h1 := h.rowlen
  have h2 : deadL (rowE l) ≤ (rowE l).length := List.length_filter_le _ _
  have h3 := row_len h
  have h4 := h.is.len
  omega
/-! ### The greatest counter -/
theorem topF : ∀ (X : List OP) (n : Int), let m := X.foldl (fun n o => if o.i.c > n then o.i.c else n) n
    n ≤ m ∧ (∀ x, x ∈ X → x.i.c ≤ m) ∧ (m = n ∨ ∃ x, x ∈ X ∧ m = x.i.c)
  | [], n => ⟨by simp, by simp, .inl rfl⟩
  | o :: r, n => by
    have h := topF r (if o.i.c > n then o.i.c else n)
    simp only [List.foldl_cons] at h ⊢
    generalize List.foldl (fun n o => if o.i.c > n then o.i.c else n) (if o.i.c > n then o.i.c else n) r = m at h ⊢
    obtain ⟨h1, h2, h3⟩ := h
    refine ⟨by split at h1 <;> omega, fun x hx => ?_, ?_⟩
    · rcases List.mem_cons.1 hx with rfl | hx
      · split at h1 <;> omega
      · exact h2 x hx
    · rcases h3 with h3 | ⟨x, hx, h3⟩
      · split at h3
        · exact .inr ⟨o, by simp, h3⟩
        · exact .inl h3
      · exact .inr ⟨x, by simp [hx], h3⟩
theorem top_nn (X : List OP) : 0 ≤ topR X := (topF X 0).1
theorem top_ge {X : List OP} {x : OP} (h : x ∈ X) : x.i.c ≤ topR X := (topF X 0).2.1 x h
theorem top_is (X : List OP) : topR X = 0 ∨ ∃ x, x ∈ X ∧ topR X = x.i.c := (topF X 0).2.2
theorem checkO_may {o : OP} (h : checkO o = 0) : mayI o.i = true := by
  unfold checkO at h
  split at h
  · cases h
  · split at h
    · cases h
    · split at h
      · cases h
      · next h3 =>
        cases e : mayI o.i with
        | true => rfl
        | false => exact absurd (.inl e) h3
theorem top_le {X : List OP} (h : ∀ o, o ∈ X → checkO o = 0) : topR X ≤ 1048576 := by
  rcases top_is X with h1 | ⟨x, hx, h1⟩
  · omega
  · have := (mayI_iff (checkO_may (h x hx))).2.1
    omega
theorem ok_insL {l : List OP} (h : Dn l) : ∀ o, o ∈ insL l → checkO o = 0 := fun o ho => h.is.ok o (mem_insL.1 ho).1
theorem last_ge : ∀ {M : List IE}, upM M → ∀ x, x ∈ M → x.1 = lastI M ∨ lessI x.1 (lastI M) = true := by
  intro M h x hx
  unfold lastI
  cases hl : M.getLast? with
  | none => rw [List.getLast?_eq_none_iff.1 hl] at hx; simp at hx
  | some y =>
    simp only
    obtain ⟨r, hr⟩ := List.getLast?_eq_some_iff.1 hl
    subst hr
    rcases List.mem_append.1 hx with hx | hx
    · exact .inr ((List.pairwise_append.1 h).2.2 x hx y (by simp))
    · left; rw [List.mem_singleton.1 hx]
theorem last_top {l : List OP} (h : Dn l) {M : List IE} (hu : upM M) (ha : ∀ a, alook a M = entO l a) : (lastI M).c = topR (insL l) := by
  have up : ∀ x, x ∈ M → x.1.c ≤ topR (insL l) := fun x hx => by
    have h1 := alook_mem hu hx
    rw [ha] at h1
    unfold entO at h1
    cases hf : findO 0 x.1 l with
    | none => rw [hf] at h1; cases h1
    | some o =>
      obtain ⟨h2, h3, h4⟩ := findO_some hf
      rw [← h4]
      exact top_ge (mem_insL.2 ⟨h2, h3⟩)
  have dn : ∀ o, o ∈ insL l → o.i.c ≤ (lastI M).c := fun o ho => by
    have hf := find_unique h ho
    have h1 := ha o.i
    unfold entO at h1
    rw [hf] at h1
    obtain ⟨j, h2, _⟩ := alook_is h1
    have h3 := last_ge hu _ (List.mem_of_getElem? h2)
    rcases h3 with h3 | h3
    · rw [← h3]; exact Int.le_refl _
    · unfold lessI at h3
      simp only [Bool.or_eq_true, Bool.and_eq_true, decide_eq_true_eq] at h3
      omega
  have h0 := top_is (insL l)
  cases hl : M.getLast? with
  | none =>
    have e : lastI M = ⟨0, 0⟩ := by unfold lastI; rw [hl]
    have hM : M = [] := List.getLast?_eq_none_iff.1 hl
    rw [e]
    rcases h0 with h0 | ⟨o, ho, h0⟩
    · exact h0.symm
    · have := ha o.i
      rw [hM] at this
      unfold entO at this
      rw [find_unique h ho] at this; cases this
  | some y =>
    have e : lastI M = y.1 := by unfold lastI; rw [hl]
    have hy : y ∈ M := List.mem_of_getLast? hl
    have h1 := up y hy
    rcases h0 with h0 | ⟨o, ho, h0⟩
    · have h2 : alook y.1 M = some y.2 := alook_mem hu hy
      rw [ha] at h2
      unfold entO at h2
      cases hf : findO 0 y.1 l with
      | none => rw [hf] at h2; cases h2
      | some o =>
        obtain ⟨h3, h4, h5⟩ := findO_some hf
        have h6 := (mayI_iff (checkO_may (h.is.ok o h3))).1
        have h7 := top_ge (mem_insL.2 ⟨h3, h4⟩)
        rw [h0] at h7; omega
    · have := dn o ho
      rw [e] at this ⊢; omega
/-! ### A version -/
def sumV (l : List OP) : TL := TL.sum ((insL l).map fun o => o.i)
abbrev vcs (s : SS) (l R : List OP) : List AV := [.d s.t.d, .d s.p.d, iv s.n, .d (.sl 6 (R.map opD)), iv (l.length : Nat), iv (sumV l).n, cx (sumV l).a (sumV l).b, cx (sumV l).c (sumV l).d]
abbrev vv (s : SS) (l R : List OP) : AV := .agg (vcs s l R)
theorem sum_ok {l : List OP} (h : Dn l) : (sumV l).ok := TL.sum_ok _ (fun x hx => by
  obtain ⟨o, ho, rfl⟩ := List.mem_map.1 hx
  exact checkO_may (ok_insL h o ho)) (by rw [List.length_map]; exact h.is.len)
theorem VText_c {s : SS} {l : List OP} (h : isS s l) (R : List OP) : Cv 116 [vv s l R] (sv (byt (txtZ (rowE l)))) := by
  have ht := Text_c s.t (by have := h.small; omega) (by rw [h.els]; exact okE_of h.dn)
  rw [h.els] at ht
  refine Ct.of_vc Tryz.f116 Tryz.func116 rfl rfl fun w H B g0 => ?_
  refine OpJ.callV ht (fun _ _ => rfl) rfl rfl rfl ?_
  exact FinP.open rfl rfl
theorem VLen_c {s : SS} {l : List OP} (h : isS s l) (R : List OP) : Cv 197 [vv s l R] (iv (liveL (rowE l))) := by
  have ht := TAlive_c s.t
  rw [live_els, h.els] at ht
  refine Ct.of_vc Tryz.f197 Tryz.func197 rfl rfl fun w H B g0 => ?_
  refine OpJ.callV ht (fun _ _ => rfl) rfl rfl rfl ?_
  exact FinP.open rfl rfl
theorem VSeq_c (s : SS) (l R : List OP) : Cv 206 [vv s l R] (iv (l.length : Nat)) := by
  refine Ct.of_vc Tryz.f206 Tryz.func206 rfl rfl fun w H B g0 => ?_
  exact FinP.open rfl rfl
theorem VTally_c (s : SS) (l R : List OP) : Cv 117 [vv s l R] (tlv (sumV l)) := by
  refine Ct.of_vc Tryz.f117 Tryz.func117 rfl rfl fun w H B g0 => ?_
  exact FinP.open rfl rfl
def nameL (L : List EL) (k : Int) : ID := if 0 ≤ k ∧ k < liveL L then ((L[selL k.toNat L]?).getD EL0).id else ⟨0, 0⟩
theorem VNamed_c {s : SS} {l : List OP} (h : isS s l) (R : List OP) (k : Int) : Cv 200 [vv s l R, iv k] (.tup [idv (nameL (rowE l) k), bv (decide (0 ≤ k ∧ k < liveL (rowE l)))]) := by
  have hs := h.small
  have ht := Select_c s.t k (by omega)
  unfold selOk at ht
  have hlv : s.t.live = liveL (rowE l) := by rw [live_els, h.els]
  rw [hlv] at ht
  by_cases hk : 0 ≤ k ∧ k < liveL (rowE l)
  · have hlt := sel_lt (rowE l) k.toNat (by omega)
    have e1 : selT s.t k = selL k.toNat (rowE l) := by unfold selT; rw [hlv, if_pos hk, h.els]
    rw [e1] at ht
    have hat := At_c s.t (selL k.toNat (rowE l) : Nat) (by omega)
    have hx : (rowE l)[selL k.toNat (rowE l)]? = some (rowE l)[selL k.toNat (rowE l)] := by simp
    rw [atT_row h, hx] at hat
    have e2 : nameL (rowE l) k = (rowE l)[selL k.toNat (rowE l)].id := by unfold nameL; rw [if_pos hk, hx]; rfl
    rw [e2]
    rw [decide_eq_true hk] at ht ⊢
    generalize (rowE l)[selL k.toNat (rowE l)] = e at hat ⊢
    generalize selL k.toNat (rowE l) = n at ht hat
    refine Ct.of_vc Tryz.f200 Tryz.func200 rfl rfl fun w H B g0 => ?_
    refine OpJ.callV ht (fun _ _ => rfl) rfl rfl rfl ?_
    (repeat (first | refine Spl.t rfl ?_ | refine Spl.f rfl ?_))
    refine OpJ.callV hat (fun _ _ => rfl) rfl rfl rfl ?_
    exact FinP.open rfl rfl
  · rw [decide_eq_false hk] at ht ⊢
    have e2 : nameL (rowE l) k = ⟨0, 0⟩ := by unfold nameL; rw [if_neg hk]
    rw [e2]
    refine Ct.of_vc Tryz.f200 Tryz.func200 rfl rfl fun w H B g0 => ?_
    refine OpJ.callV ht (fun _ _ => rfl) rfl rfl rfl ?_
    (repeat (first | refine Spl.t rfl ?_ | refine Spl.f rfl ?_))
    exact FinP.open rfl rfl
def beforeL (L : List EL) (a : ID) : Int := if 0 ≤ placeL a L then rankL L (placeL a L) else 0
theorem VBefore_c {s : SS} {l : List OP} (h : isS s l) (R : List OP) (a : ID) : Cv 203 [vv s l R, idv a] (.tup [iv (beforeL (rowE l) a), bv (decide (0 ≤ placeL a (rowE l)))]) := by
  have hs := h.small
  have hf := Find_c h a
  have hlt := placeL_lt a (rowE l)
  have hlen : (rowE l).length ≤ 4096 := by rw [row_len h.dn]; exact h.dn.is.len
  by_cases hp : 0 ≤ placeL a (rowE l)
  · have hr := Rank_c s.t (placeL a (rowE l)) (by omega) (by omega) (by omega)
    rw [h.els] at hr
    have e : beforeL (rowE l) a = rankL (rowE l) (placeL a (rowE l)) := by unfold beforeL; rw [if_pos hp]
    rw [decide_eq_true hp] at hf ⊢
    rw [e]
    refine Ct.of_vc Tryz.f203 Tryz.func203 rfl rfl fun w H B g0 => ?_
    refine OpJ.callV hf (fun _ _ => rfl) rfl rfl rfl ?_
    (repeat (first | refine Spl.t rfl ?_ | refine Spl.f rfl ?_))
    refine OpJ.callV hr (fun _ _ => rfl) rfl rfl rfl ?_
    exact FinP.open rfl rfl
  · have e : beforeL (rowE l) a = 0 := by unfold beforeL; rw [if_neg hp]
    rw [decide_eq_false hp] at hf ⊢
    rw [e]
    refine Ct.of_vc Tryz.f203 Tryz.func203 rfl rfl fun w H B g0 => ?_
    refine OpJ.callV hf (fun _ _ => rfl) rfl rfl rfl ?_
    (repeat (first | refine Spl.t rfl ?_ | refine Spl.f rfl ?_))
    exact FinP.open rfl rfl
end Go.Proofs.E
end
section
namespace Go.Gv
open Go.RowKit
section
variable {X : Cx} {ty : TypeId} {pos : String} {aft : Array Edge} {g : Option (Nat × Bool)} {t : T} {σ : Sg} {K : T → Sg → Prop}
theorem O.allocN (i : Nat) {d : Nat} {e : TypeId} {z : Value} (hz : zeroOf X.P e = some z) (h1 : oneAV (ofConst z) = true) (hf : isFresh i t σ X.pin = true)
    (hc : (avCells (ofConst z)).any (has2 i) = false) (hN : dOk (some d) X.N = true) (k : K ((d, .box i 0) :: t) ((i, .cells (avCells (ofConst z))) :: σ)) : OpJ X ⟨some d, .alloc e, ty, pos, aft, g⟩ t σ K := by
  intro γ H a w s next Q' hk
  obtain ⟨us, hu, hl, hr⟩ := rep_cells (rep_const γ H z) h1
  have hz := fun w => zeroOf_run hz (w := w)
  have hrun : (execOp a.eval ⟨some d, .alloc e, ty, pos, aft, g⟩).run X.P w = .ok (.value (.pointer (some ⟨w.heap.size, 0, none⟩))) (w.alloc (.cells us.toArray e)) := by
    simp [execOp, Instr.alloc, newVar, newRow, hu, hz]
  rw [semAt_of (by simp), hrun, Oper.uponIn_value]
  exact hk _ H _ _ _ _ (newCells s hf hN hl hr hc) k
end
end Go.Gv
end
section
open Go Go.Gv
attribute [local irreducible] Go.Gv.WJ Go.Gv.OpJ Go.Gv.QJ Go.Gv.Spl Go.Gv.Req Go.Gv.IdxP Go.Gv.RegP Go.Gv.FinP Go.Gv.CellP Go.Gv.CellsP Go.Gv.ArrP Go.Gv.ArrsP Go.Gv.DropP Go.Gv.ByteP Go.Gv.StoreP
set_option maxRecDepth 100000
namespace Go.Proofs.E
attribute [local irreducible] elems
/-! ### Which one alive -/
theorem row_le {l : List OP} (h : Dn l) : (rowE l).length ≤ 4096 := by rw [row_len h]; exact h.is.len
def cntV (l R : List OP) : Int := (if topR R > topR (insL l) then topR R else topR (insL l)) + 1
theorem VCounter_c {s : SS} {l : List OP} (h : isS s l) {R : List OP} (hR : R.length ≤ 1000000) (hok : ∀ o, o ∈ R → checkO o = 0) : Cv 199 [vv s l R] (iv (cntV l R)) := by
  obtain ⟨M, h1, h2, _⟩ := h.mp
  have hlast := LastIs_c h1
  have hc := last_top h.dn h1.up h2
  have ht := top_le (ok_insL h.dn)
  have htr := top_le hok
  have h0 := top_nn (insL l)
  have h00 := top_nn R
  unfold cntV
  rw [← hc] at ht h0 ⊢
  have htop := Top_c R hR
  generalize lastI M = la at hlast ht h0 ⊢
  generalize topR R = tr at htop htr h00 ⊢
  refine Ct.of_vc Tryz.f199 Tryz.func199 rfl rfl fun w H B g0 => ?_
  refine RegP.of rfl (by decide +kernel) ?_
  refine QuietP.of (QJ.call hlast (fun _ _ => rfl) rfl rfl) ?_
  refine QuietP.of (QJ.call htop (fun _ _ => rfl) rfl rfl) ?_
  exact FinP.open rfl (congrArg iv (wrap_id _ (by split <;> omega) (by split <;> omega)))
structure CH where
  seq : Int
  at_ : Int
  id : ID
  ch : Int
  del : Bool
  deriving DecidableEq
abbrev chD (c : CH) : List D := [.v (.int .i64 c.seq), .v (.int .i64 c.at_), .v (.int .i64 c.id.c), .v (.int .i64 c.id.s), .v (.int .i32 c.ch), .v (.bool c.del)]
abbrev chv (c : CH) : AV := .agg [iv c.seq, iv c.at_, iv c.id.c, iv c.id.s, cv' c.ch, bv c.del]
def chO (l : List OP) (o : OP) : CH := ⟨((l ++ [o]).length : Nat), rankL (rowE (l ++ [o])) (atO l o), o.i, ((rowE (l ++ [o]))[(atO l o).toNat]?.getD EL0).ch, decide (o.k = 1)⟩
theorem at_get {l : List OP} (h : Dn l) {o : OP} (hw : wrongO l o = 0) : ∃ (n : Nat) (e : EL), atO l o = n ∧ placeL o.i (rowE (l ++ [o])) = n ∧ (rowE (l ++ [o]))[n]? = some e ∧ e.id = o.i := by
  have hd : Dn (l ++ [o]) := .snoc h hw
  have hp : 0 ≤ placeL o.i (rowE (l ++ [o])) := by
    have := place_has hd o.i
    have h2 : (findO 0 o.i (l ++ [o])).isSome = true := by
      obtain ⟨_, h1⟩ := wrong_0 hw
      rw [findO_app]
      rcases h1 with ⟨hk, h3, _⟩ | ⟨hk, _⟩
      · obtain ⟨x, hx⟩ := Option.isSome_iff_exists.1 h3
        rw [hx]; rfl
      · cases hf : findO 0 o.i l with
        | some x => rfl
        | none => simp [findO, hk]
    rw [h2] at this
    exact of_decide_eq_true this
  obtain ⟨e, h1, h2, _⟩ := placeL_get hp
  have ha : atO l o = placeL o.i (rowE (l ++ [o])) := by unfold atO; rw [if_pos hw]
  exact ⟨_, e, by rw [ha, Int.toNat_of_nonneg hp], by rw [Int.toNat_of_nonneg hp], h1, h2⟩
theorem sumV_snoc0 {l : List OP} {o : OP} (h : o.k = 0) : sumV (l ++ [o]) = (sumV l).add (TL.one o.i) := by unfold sumV; rw [insL_snoc0 h, List.map_append]; exact TL.sum_snoc _ _
theorem sumV_snoc1 {l : List OP} {o : OP} (h : o.k ≠ 0) : sumV (l ++ [o]) = sumV l := by unfold sumV; rw [insL_snoc1 h]
theorem sumV_n (l : List OP) : (sumV l).n = (insL l).length := by unfold sumV; rw [TL.sum_n, List.length_map]
end Go.Proofs.E
end
