/- Laws that the claim's text stands on: A version: the law's comparisons; A version: an act, by the program and by the document; A room of operations that wait: the law's example; A version: the law's example; A version: the law VersionPlays; A cursor: what its calls answer, and the document's; A cursor, as the document has it; the law's versions; A version: what an insert and a delete of its own come to; A version: the insert and the delete of its own that are done; A cursor: where it is behind an insert, or a delete; A region that draws its order: quiet operations, births, and stores into private variables that do not wait for what stands ahead of them; A cursor: the law's example; the law CursorTells; A cursor: the law CursorStays. -/
import Derived.Test.YtcpmcadgknfpjaaGreatDoorM1
import Derived.Test.YtcpmcadgknfpjaaGreatDoorM2
import Derived.Test.YtcpmcadgknfpjaaGreatDoorM3
import Derived.Test.YtcpmcadgknfpjaaGreatDoorDShelf
import Derived.Test.YtcpmcadgknfpjaaGreatDoorM4
import Derived.Test.YtcpmcadgknfpjaaGreatDoorM5
import Derived.Test.YtcpmcadgknfpjaaGreatDoorM6
import Derived.Test.YtcpmcadgknfpjaaGreatDoorM7
set_option linter.unusedVariables false
set_option linter.unusedSimpArgs false
section
open Go Go.Gv
attribute [local irreducible] Go.Gv.WJ Go.Gv.OpJ Go.Gv.QJ Go.Gv.Spl Go.Gv.Req Go.Gv.IdxP Go.Gv.RegP Go.Gv.FinP Go.Gv.CellP Go.Gv.CellsP Go.Gv.ArrP Go.Gv.ArrsP Go.Gv.DropP Go.Gv.ByteP Go.Gv.StoreP
set_option maxRecDepth 100000
namespace Go.Proofs.E
attribute [local irreducible] elems
theorem Dn_pre : ∀ {a b : List OP}, Dn (a ++ b) → Dn a := by
  intro a b h
  generalize hl : a ++ b = l at h
  induction h generalizing a b with
  | nil => rw [(List.append_eq_nil_iff.1 hl).1]; exact .nil
  | @snoc l o h hw ih =>
    rcases List.eq_nil_or_concat b with hb | ⟨c, x, hb⟩
    · subst hb
      rw [List.append_nil] at hl
      rw [hl]; exact .snoc h hw
    · rw [hb, List.concat_eq_append, ← List.append_assoc] at hl
      exact ih (List.append_inj' hl rfl).1
theorem Dn_take {l : List OP} (h : Dn l) (i : Nat) : Dn (l.take i) := Dn_pre (b := l.drop i) (by rw [List.take_append_drop]; exact h)
theorem sumV_take {l : List OP} (h : Dn l) {i : Nat} {x : OP} (hx : l[i]? = some x) : (x.k = 0 → sumV (l.take (i + 1)) = (sumV (l.take i)).add (TL.one x.i) ∧ (sumV (l.take i)).n + 1 ≤ 4096 ∧ mayI x.i = true) ∧ (x.k ≠ 0 → sumV (l.take (i + 1)) = sumV (l.take i)) := by
  have hsn := take_snoc hx
  refine ⟨fun hk => ?_, fun hk => by rw [hsn, sumV_snoc1 hk]⟩
  refine ⟨by rw [hsn, sumV_snoc0 hk], ?_, checkO_may (h.is.ok x (List.mem_of_getElem? hx))⟩
  have := (Dn_take h (i + 1)).is.len
  rw [hsn, insL_snoc0 hk] at this
  rw [sumV_n]; simp at this; omega
theorem Is8_c {s : SS} {l : List OP} (h : isS s l) (R : List OP) (hR : R.length ≤ 100000) : Cv 50 [vv s l R, rvv l R] (bv true) := by
  have hlist := RList8_c h.dn R
  have hwait := VWaiting_c s l R (by omega)
  have hlr := row_le h.dn
  have htx := VText_c h R
  have hrt := RText8_c h.dn R
  have hle := VLen_c h R
  have hrk := RRank_c (rowE l) ((rowE l).map elD).length (by omega)
  have hra : rankL (rowE l) (((rowE l).map elD).length : Nat) = liveL (rowE l) := by rw [List.length_map]; exact rank_all _
  rw [hra] at hrk
  have hsq := VSeq_c s l R
  have htl := VTally_c s l R
  have hst := StringT_c (sumV l) (sum_ok h.dn)
  have hrs := RText2_c (sumV l) (sum_ok h.dn)
  have hl2 := h.dn.len2
  have hall : l.take l.length = l := List.take_length
  refine Ct.of_wv Tryz.f50 Tryz.func50 rfl rfl fun w H B g0 => ?_
  try refine WJ.cut ?_
  (first | refine Sq.go ?_ | refine vL_nil (Sq.go ?_) | skip)
  try refine WJ.cut ?_
  refine OpJ.callV hlist (fun _ _ => rfl) rfl rfl rfl ?_
  (first | refine Sq.go ?_ | refine vL_nil (Sq.go ?_) | skip)
  try refine WJ.cut ?_
  refine OpJ.callV hwait (fun _ _ => rfl) rfl rfl rfl ?_
  (first | refine Sq.go ?_ | refine vL_nil (Sq.go ?_) | skip)
  try refine WJ.cut ?_
  (first | refine Sq.go ?_ | refine vL_nil (Sq.go ?_) | skip)
  try refine WJ.cut ?_
  refine WJ.loopK (V := Nat) (fun i => [(19, iv i)]) (fun i => [(7, .cells [iv (sumV (l.take i)).n, iv (sumV (l.take i)).a, iv (sumV (l.take i)).b, iv (sumV (l.take i)).c, iv (sumV (l.take i)).d])]) [7] (fun i => l.length - i) (fun i => i ≤ l.length) 0 (by omega) (by repeat' (first | exact trivial | exact rfl | refine And.intro ?_ ?_)) (by repeat' (first | exact trivial | exact rfl | refine And.intro ?_ ?_)) ?_
  intro i hi
  refine Spl.of (fun h1 => ?_) (fun h1 => ?_)
  · have hlt : i < l.length := by have := of_decide_eq_true h1; simp at this; omega
    have hx : l[i]? = some l[i] := by simp
    obtain ⟨t1, t2⟩ := sumV_take h.dn hx
    have hok := sum_ok (Dn_take h.dn i)
    generalize l[i] = x at hx t1 t2
    (repeat (first | refine Spl.t rfl ?_ | refine Spl.f rfl ?_))
    refine IdxP.of (opD x) (by omega) (by simp [hx]) ?_
    (repeat (first | refine Spl.t rfl ?_ | refine Spl.f rfl ?_))
    refine Spl.of (fun h2 => ?_) (fun h2 => ?_)
    · obtain ⟨t3, t4, t5⟩ := t1 (of_decide_eq_true h2)
      have hput := RPut2_c (sumV (l.take i)) x.i hok t5 t4
      rw [← t3] at hput
      (repeat (first | refine Spl.t rfl ?_ | refine Spl.f rfl ?_))
      refine OpJ.callV hput (fun _ _ => rfl) rfl rfl rfl ?_
      (repeat (first | refine Spl.t rfl ?_ | refine Spl.f rfl ?_))
      exact ⟨i + 1, by omega, by omega, ⟨some_iv (wrap_id _ (by omega) (by omega)), trivial⟩, (by repeat' (first | exact trivial | exact rfl | refine And.intro ?_ ?_)), (by repeat' (first | exact trivial | exact rfl | refine And.intro ?_ ?_)), (by repeat' (first | exact trivial | exact rfl | refine And.intro ?_ ?_))⟩
    · have t3 := t2 (of_decide_eq_false h2)
      (repeat (first | refine Spl.t rfl ?_ | refine Spl.f rfl ?_))
      exact ⟨i + 1, by omega, by omega, ⟨some_iv (wrap_id _ (by omega) (by omega)), trivial⟩, (by repeat' (first | exact trivial | exact rfl | refine And.intro ?_ ?_)), ⟨by rw [t3]; rfl, trivial⟩, (by repeat' (first | exact trivial | exact rfl | refine And.intro ?_ ?_))⟩
  have hi2 : i = l.length := by have := of_decide_eq_false h1; simp at this; omega
  subst hi2
  rw [hall]
  (repeat (first | refine Spl.t rfl ?_ | refine Spl.f rfl ?_))
  (first | refine Sq.go ?_ | refine vL_nil (Sq.go ?_) | skip)
  try refine WJ.cut ?_
  refine RegP.of rfl (by decide +kernel) ?_
  refine QuietP.of (QJ.call htx (fun _ _ => rfl) rfl rfl) ?_
  (repeat (first | refine Spl.t rfl ?_ | refine Spl.f rfl ?_))
  refine QuietP.of (QJ.call hrt (fun _ _ => rfl) rfl rfl) ?_
  (repeat (first | refine Spl.t rfl ?_ | refine Spl.f rfl ?_))
  refine Spl.f (by simp) ?_
  (repeat (first | refine Spl.t rfl ?_ | refine Spl.f rfl ?_))
  refine QuietP.of (QJ.call hle (fun _ _ => rfl) rfl rfl) ?_
  (repeat (first | refine Spl.t rfl ?_ | refine Spl.f rfl ?_))
  refine QuietP.of (QJ.call hrk (fun _ _ => rfl) rfl rfl) ?_
  (repeat (first | refine Spl.t rfl ?_ | refine Spl.f rfl ?_))
  refine Spl.f (by simp) ?_
  (repeat (first | refine Spl.t rfl ?_ | refine Spl.f rfl ?_))
  refine QuietP.of (QJ.call hsq (fun _ _ => rfl) rfl rfl) ?_
  (repeat (first | refine Spl.t rfl ?_ | refine Spl.f rfl ?_))
  refine Spl.f (by simp) ?_
  (repeat (first | refine Spl.t rfl ?_ | refine Spl.f rfl ?_))
  refine Spl.f (by simp) ?_
  (repeat (first | refine Spl.t rfl ?_ | refine Spl.f rfl ?_))
  refine QuietP.of (QJ.call htl (fun _ _ => rfl) rfl rfl) ?_
  (repeat (first | refine Spl.t rfl ?_ | refine Spl.f rfl ?_))
  refine QuietP.of (QJ.call hst (fun _ _ => rfl) rfl rfl) ?_
  (repeat (first | refine Spl.t rfl ?_ | refine Spl.f rfl ?_))
  refine QuietP.of (QJ.call hrs (fun _ _ => rfl) rfl rfl) ?_
  (repeat (first | refine Spl.t rfl ?_ | refine Spl.f rfl ?_))
  refine Spl.f (by simp) ?_
  (repeat (first | refine Spl.t rfl ?_ | refine Spl.f rfl ?_))
  (first | refine Sq.go ?_ | refine vL_nil (Sq.go ?_) | skip)
  try refine WJ.cut ?_
  clear hi h1
  refine WJ.loopK (V := Nat) (fun i => [(74, iv i)]) (fun _ => []) [] (fun i => R.length - i) (fun i => i ≤ R.length) 0 (by omega) (by repeat' (first | exact trivial | exact rfl | refine And.intro ?_ ?_)) (by repeat' (first | exact trivial | exact rfl | refine And.intro ?_ ?_)) ?_
  intro i hi
  refine Spl.of (fun h1 => ?_) (fun h1 => ?_)
  · have hlt : i < R.length := by have := of_decide_eq_true h1; simp at this; omega
    have hx : R[i]? = some R[i] := by simp
    generalize R[i] = x at hx
    (repeat (first | refine Spl.t rfl ?_ | refine Spl.f rfl ?_))
    refine RegP.of rfl (by decide +kernel) ?_
    refine IdxP.of (opD x) (by omega) (by simp [hx]) ?_
    refine QuietP.of (QJ.call (Of5_c x) (fun _ _ => rfl) rfl rfl) ?_
    refine IdxP.of (opD x) (by omega) (by simp [hx]) ?_
    refine QuietP.of (O.neT 4 rfl rfl rfl rfl rfl eqRO_ok eqRO_g (eqRO x x)) ?_
    refine Spl.f (by simp) ?_
    (repeat (first | refine Spl.t rfl ?_ | refine Spl.f rfl ?_))
    exact ⟨i + 1, by omega, by omega, ⟨some_iv (wrap_id _ (by omega) (by omega)), trivial⟩, (by repeat' (first | exact trivial | exact rfl | refine And.intro ?_ ?_)), (by repeat' (first | exact trivial | exact rfl | refine And.intro ?_ ?_)), (by repeat' (first | exact trivial | exact rfl | refine And.intro ?_ ?_))⟩
  · (repeat (first | refine Spl.t rfl ?_ | refine Spl.f rfl ?_))
    (first | refine Sq.go ?_ | refine vL_nil (Sq.go ?_) | skip)
    try refine vc_sound _ _ _ _ ?_
    exact FinP.open rfl rfl
theorem eqCH (a b : CH) : eqT Tryz.prog 4 175 [.int .i64 a.seq, .int .i64 a.at_, .int .i64 a.id.c, .int .i64 a.id.s, .int .i32 a.ch, .bool a.del] [.int .i64 b.seq, .int .i64 b.at_, .int .i64 b.id.c, .int .i64 b.id.s, .int .i32 b.ch, .bool b.del] = some (decide (a = b)) := by
  obtain ⟨q, u, ⟨c, s⟩, h, d⟩ := a
  obtain ⟨q', u', ⟨c', s'⟩, h', d'⟩ := b
  have e : eqT Tryz.prog 4 175 [.int .i64 q, .int .i64 u, .int .i64 c, .int .i64 s, .int .i32 h, .bool d] [.int .i64 q', .int .i64 u', .int .i64 c', .int .i64 s', .int .i32 h', .bool d'] = some (decide (q = q') && (decide (u = u') && ((decide (c = c') && (decide (s = s') && true)) && (decide (h = h') && (decide (d = d') && true))))) := by rfl
  rw [e]
  congr 1
  rw [Bool.eq_iff_iff]
  simp [and_assoc]
theorem eqCH_ok : eqOk Tryz.prog 4 175 = true := by kernel_rfl
theorem eqCH_g : Tryz.prog.eqGuardType Tryz.prog.depth 175 = false := by kernel_rfl
theorem Changes8_c (out : List CH) (hn : out.length ≤ 1000000) : Cv 49 [.d (chs out), .d (chs out)] (bv true) := by
  refine Ct.of_vc Tryz.f49 Tryz.func49 rfl rfl fun w H B g0 => ?_
  refine Spl.f (by simp) ?_
  (repeat (first | refine Spl.t rfl ?_ | refine Spl.f rfl ?_))
  refine WJ.loopK (V := Nat) (fun i => [(14, iv i)]) (fun _ => []) [] (fun i => out.length - i) (fun i => i ≤ out.length) 0 (by omega) (by repeat' (first | exact trivial | exact rfl | refine And.intro ?_ ?_)) (by repeat' (first | exact trivial | exact rfl | refine And.intro ?_ ?_)) ?_
  intro i hi
  refine Spl.of (fun h1 => ?_) (fun h1 => ?_)
  · have hlt : i < out.length := by have := of_decide_eq_true h1; simp at this; omega
    have hx : out[i]? = some out[i] := by simp
    generalize out[i] = x at hx
    (repeat (first | refine Spl.t rfl ?_ | refine Spl.f rfl ?_))
    refine IdxP.of (chD x) (by omega) (by simp [hx]) ?_
    (repeat (first | refine Spl.t rfl ?_ | refine Spl.f rfl ?_))
    refine RegP.of rfl (by decide +kernel) ?_
    refine QuietP.of (QJ.call (Of_c x.id) (fun _ _ => rfl) rfl rfl) ?_
    refine IdxP.of (chD x) (by omega) (by simp [hx]) ?_
    refine QuietP.of (O.neT 4 rfl rfl rfl rfl rfl eqCH_ok eqCH_g (eqCH x x)) ?_
    refine Spl.f (by simp) ?_
    (repeat (first | refine Spl.t rfl ?_ | refine Spl.f rfl ?_))
    exact ⟨i + 1, by omega, by omega, ⟨some_iv (wrap_id _ (by omega) (by omega)), trivial⟩, (by repeat' (first | exact trivial | exact rfl | refine And.intro ?_ ?_)), (by repeat' (first | exact trivial | exact rfl | refine And.intro ?_ ?_)), (by repeat' (first | exact trivial | exact rfl | refine And.intro ?_ ?_))⟩
  · (repeat (first | refine Spl.t rfl ?_ | refine Spl.f rfl ?_))
    exact FinP.open rfl rfl
end Go.Proofs.E
end
section
open Go Go.Gv
attribute [local irreducible] Go.Gv.WJ Go.Gv.OpJ Go.Gv.QJ Go.Gv.Spl Go.Gv.Req Go.Gv.IdxP Go.Gv.RegP Go.Gv.FinP Go.Gv.CellP Go.Gv.CellsP Go.Gv.ArrP Go.Gv.ArrsP Go.Gv.DropP Go.Gv.ByteP Go.Gv.StoreP
set_option maxRecDepth 100000
namespace Go.Proofs.E
attribute [local irreducible] elems
/-- What a version keeps to. -/
structure okV (v : VS) : Prop where
  is : isS v.s v.l
  ck : ∀ o, o ∈ v.R → checkO o = 0
  len : v.R.length ≤ 16
theorem okV.same {v : VS} (h : okV v) : okV v.same := ⟨h.is, h.ck, h.len⟩
theorem okV.take {v : VS} (h : okV v) (o : OP) : okV (v.take o) := ⟨appS_is h.is o, h.ck, h.len⟩
theorem next_mem {l R : List OP} : ∀ x, x ∈ nextR l R → x ∈ R := fun x hx => by
  unfold nextR at hx
  split at hx
  · exact hx
  · rcases List.mem_append.1 hx with h | h
    · exact List.mem_of_mem_take h
    · exact List.mem_of_mem_drop h
theorem nextR_le (l R : List OP) : (nextR l R).length ≤ R.length := by
  unfold nextR; split
  · exact Nat.le_refl _
  · simp; omega
theorem okV.next {v : VS} (h : okV v) : okV v.next := okV.take (v := ⟨v.s, v.l, nextR v.l v.R, v.out⟩) ⟨h.is, fun o ho => h.ck o (next_mem o ho), Nat.le_trans (nextR_le _ _) h.len⟩ _
theorem okV.drn : ∀ (n : Nat) {v : VS}, okV v → okV (drn n v)
  | 0, _, h => h
  | n + 1, v, h => by
    rw [E.drn]
    split
    · exact h
    · exact okV.drn n h.next
theorem drn_out : ∀ (n : Nat) (v : VS), (drn n v).out.length ≤ v.out.length + n
  | 0, _ => Nat.le_refl _
  | n + 1, v => by
    rw [drn]
    split
    · omega
    · have h1 := drn_out n v.next
      have h2 := out_len v.out v.l (nextO v.l v.R)
      have h3 : v.next.out = outV v.out v.l (nextO v.l v.R) := rfl
      rw [h3] at h1; omega
theorem addE_0 {R : List OP} {o : OP} (h : addE R o = 0) : checkO o = 0 ∧ R.length < 16 := by
  unfold addE at h
  split at h
  · next h1 => exact absurd h h1
  · next h1 =>
    split at h
    · cases h
    · split at h
      · cases h
      · split at h
        · cases h
        · exact ⟨by simpa using h1, by omega⟩
theorem okV.rem {v : VS} (h : okV v) (o : OP) : okV (remV v o) := by
  unfold remV
  split
  · exact okV.drn _ (okV.take h.same o)
  · split
    · refine ⟨h.is, fun x hx => ?_, ?_⟩
      · simp only at hx
        unfold addR at hx
        split at hx
        · next h0 =>
          rcases List.mem_append.1 hx with hx | hx
          · exact h.ck x hx
          · rw [List.mem_singleton.1 hx]; exact (addE_0 h0).1
        · exact h.ck x hx
      · simp only
        unfold addR
        split
        · next h0 => have := (addE_0 h0).2; simp; omega
        · exact h.len
    · exact h.same
theorem rem_out {v : VS} (h : okV v) (o : OP) : (remV v o).out.length ≤ 17 := by
  have hl := h.len
  unfold remV
  split
  · have h1 := drn_out v.R.length (VS.take ⟨v.s, v.l, v.R, []⟩ o)
    have h2 := out_len [] v.l o
    have h3 : (VS.take ⟨v.s, v.l, v.R, []⟩ o).out = outV [] v.l o := rfl
    rw [h3] at h1
    simp at h2; omega
  · split <;> simp
theorem okV.doT {v : VS} (h : okV v) (o : OP) : okV (doT v o).1 ∧ (doT v o).1.out.length ≤ 17 := by
  unfold E.doT
  split
  · exact ⟨h.same, by simp [VS.same]⟩
  · exact ⟨h.rem o, rem_out h o⟩
theorem okV.ins {v : VS} (h : okV v) (site at_ ch : Int) : okV (insVT v site at_ ch).1 ∧ (insVT v site at_ ch).1.out.length ≤ 17 := by
  have h0 : okV v.same ∧ v.same.out.length ≤ 17 := ⟨h.same, by simp [VS.same]⟩
  unfold insVT
  split
  · exact h0
  · split
    · exact h0
    · split
      · exact h0
      · exact h.doT _
theorem okV.del {v : VS} (h : okV v) (at_ : Int) : okV (delVT v at_).1 ∧ (delVT v at_).1.out.length ≤ 17 := by
  unfold delVT
  split
  · exact h.doT _
  · exact ⟨h.same, by simp [VS.same]⟩
structure ACT where
  k : Int
  o : OP
  site : Int
  at_ : Int
  ch : Int
abbrev actD (x : ACT) : List D := [.v (.int .u8 x.k), .v (.int .i64 x.o.k), .v (.int .i64 x.o.i.c), .v (.int .i64 x.o.i.s), .v (.int .i64 x.o.a.c), .v (.int .i64 x.o.a.s), .v (.int .i32 x.o.ch), .v (.int .i64 x.site), .v (.int .i64 x.at_), .v (.int .i32 x.ch)]
abbrev actv (x : ACT) : AV := .agg [.d (.v (.int .u8 x.k)), iv x.o.k, iv x.o.i.c, iv x.o.i.s, iv x.o.a.c, iv x.o.a.s, cv' x.o.ch, iv x.site, iv x.at_, cv' x.ch]
def doV (v : VS) (x : ACT) : VS := if x.k = 0 then remV v x.o else if x.k = 1 then (insVT v x.site x.at_ x.ch).1 else if x.k = 2 then (delVT v x.at_).1 else v
theorem okV.act {v : VS} (h : okV v) (x : ACT) : okV (doV v x) := by
  unfold doV
  split
  · exact h.rem _
  · split
    · exact (h.ins _ _ _).1
    · split
      · exact (h.del _).1
      · exact h
set_option maxHeartbeats 4000000 in
theorem Do8_c {s : SS} {l R : List OP} (h : okV ⟨s, l, R, []⟩) (x : ACT) (hat : x.at_ ≤ 9223372036854775807) :
    Cv 17 [vv s l R, rvv l R, actv x] (.tup [vv (doV ⟨s, l, R, []⟩ x).s (doV ⟨s, l, R, []⟩ x).l (doV ⟨s, l, R, []⟩ x).R, rvv (doV ⟨s, l, R, []⟩ x).l (doV ⟨s, l, R, []⟩ x).R, bv true]) := by
  have hR := h.len
  simp only at hR
  have his := h.is
  simp only at his
  refine Ct.of_wv Tryz.f17 Tryz.func17 rfl rfl fun w H B g0 => ?_
  try refine WJ.cut ?_
  (first | refine Sq.go ?_ | refine vL_nil (Sq.go ?_) | skip)
  try refine WJ.cut ?_
  (first | refine Sq.go ?_ | refine vL_nil (Sq.go ?_) | skip)
  try refine WJ.cut ?_
  (first | refine Sq.go ?_ | refine vL_nil (Sq.go ?_) | skip)
  try refine WJ.cut ?_
  (first | refine Sq.go ?_ | refine vL_nil (Sq.go ?_) | skip)
  try refine WJ.cut ?_
  (first | refine Sq.go ?_ | refine vL_nil (Sq.go ?_) | skip)
  try refine WJ.cut ?_
  (first | refine Sq.go ?_ | refine vL_nil (Sq.go ?_) | skip)
  try refine WJ.cut ?_
  (first | refine Sq.go ?_ | refine vL_nil (Sq.go ?_) | skip)
  try refine WJ.cut ?_
  (first | refine Sq.go ?_ | refine vL_nil (Sq.go ?_) | skip)
  try refine WJ.cut ?_
  by_cases c0 : x.k = 0
  · have eD : doV ⟨s, l, R, []⟩ x = remV ⟨s, l, R, []⟩ x.o := if_pos c0
    have hp := Remote_c his R [] x.o (by omega)
    have hr := RRemote_c his R [] x.o (by omega)
    have hv := h.rem x.o
    have ho := rem_out h x.o
    rw [eD]
    generalize remE ⟨s, l, R, []⟩ x.o = e at hp hr
    generalize remV ⟨s, l, R, []⟩ x.o = v at hp hr hv ho ⊢
    have hch := Changes8_c v.out (by omega)
    have his8 := Is8_c hv.is v.R (by have := hv.len; omega)
    refine Spl.t (decide_eq_true c0) ?_
    (repeat (first | refine Spl.t rfl ?_ | refine Spl.f rfl ?_))
    refine OpJ.callV hp (fun _ _ => rfl) rfl rfl rfl ?_
    (repeat (first | refine Spl.t rfl ?_ | refine Spl.f rfl ?_))
    refine RegP.mixS 12 [10] rfl (by decide +kernel) ?_
    refine QuietP.of (QJ.call (Of5_c x.o) (fun _ _ => rfl) rfl rfl) ?_
    refine QuietP.of (QJ.call hr (fun _ _ => rfl) rfl rfl) ?_
    (repeat (first | refine Spl.t rfl ?_ | refine Spl.f rfl ?_))
    (first | refine Sq.go ?_ | refine vL_nil (Sq.go ?_) | skip)
    try refine vc_sound _ _ _ _ ?_
    refine RegP.mixS 24 [6, 7] rfl (by decide +kernel) ?_
    refine Spl.t (by simp) ?_
    (repeat (first | refine Spl.t rfl ?_ | refine Spl.f rfl ?_))
    refine QuietP.of (QJ.call (Of5_c OP0) (fun _ _ => rfl) rfl rfl) ?_
    (repeat (first | refine Spl.t rfl ?_ | refine Spl.f rfl ?_))
    refine QuietP.of (O.eqT 4 rfl rfl rfl rfl rfl eqRO_ok eqRO_g (eqRO OP0 OP0)) ?_
    refine Spl.t (by simp) ?_
    (repeat (first | refine Spl.t rfl ?_ | refine Spl.f rfl ?_))
    refine QuietP.of (QJ.call hch (fun _ _ => rfl) rfl rfl) ?_
    (repeat (first | refine Spl.t rfl ?_ | refine Spl.f rfl ?_))
    refine QuietP.of (QJ.call his8 (fun _ _ => rfl) rfl rfl) ?_
    exact FinP.open rfl rfl
  · refine Spl.f (decide_eq_false c0) ?_
    (repeat (first | refine Spl.t rfl ?_ | refine Spl.f rfl ?_))
    by_cases c1 : x.k = 1
    · have eD : doV ⟨s, l, R, []⟩ x = (insVT ⟨s, l, R, []⟩ x.site x.at_ x.ch).1 := (if_neg c0).trans (if_pos c1)
      have hp := VInsert_c his R (by omega) h.ck x.site x.at_ x.ch
      have hr := RInsert_c his R (by omega) h.ck x.site x.at_ x.ch
      obtain ⟨hv, ho⟩ := h.ins x.site x.at_ x.ch
      rw [eD]
      generalize insVT ⟨s, l, R, []⟩ x.site x.at_ x.ch = p at hp hr hv ho ⊢
      obtain ⟨v, o, e⟩ := p
      unfold resT at hp
      unfold resR at hr
      simp only at hp hr hv ho ⊢
      have hch := Changes8_c v.out (by omega)
      have his8 := Is8_c hv.is v.R (by have := hv.len; omega)
      refine Spl.t (decide_eq_true c1) ?_
      (repeat (first | refine Spl.t rfl ?_ | refine Spl.f rfl ?_))
      refine OpJ.callV hp (fun _ _ => rfl) rfl rfl rfl ?_
      (repeat (first | refine Spl.t rfl ?_ | refine Spl.f rfl ?_))
      refine OpJ.callV hr (fun _ _ => rfl) rfl rfl rfl ?_
      (repeat (first | refine Spl.t rfl ?_ | refine Spl.f rfl ?_))
      (first | refine Sq.go ?_ | refine vL_nil (Sq.go ?_) | skip)
      try refine vc_sound _ _ _ _ ?_
      refine RegP.mixS 24 [6, 7] rfl (by decide +kernel) ?_
      refine Spl.t (by simp) ?_
      (repeat (first | refine Spl.t rfl ?_ | refine Spl.f rfl ?_))
      refine QuietP.of (QJ.call (Of5_c o) (fun _ _ => rfl) rfl rfl) ?_
      (repeat (first | refine Spl.t rfl ?_ | refine Spl.f rfl ?_))
      refine QuietP.of (O.eqT 4 rfl rfl rfl rfl rfl eqRO_ok eqRO_g (eqRO o o)) ?_
      refine Spl.t (by simp) ?_
      (repeat (first | refine Spl.t rfl ?_ | refine Spl.f rfl ?_))
      refine QuietP.of (QJ.call hch (fun _ _ => rfl) rfl rfl) ?_
      (repeat (first | refine Spl.t rfl ?_ | refine Spl.f rfl ?_))
      refine QuietP.of (QJ.call his8 (fun _ _ => rfl) rfl rfl) ?_
      exact FinP.open rfl rfl
    · refine Spl.f (decide_eq_false c1) ?_
      (repeat (first | refine Spl.t rfl ?_ | refine Spl.f rfl ?_))
      by_cases c2 : x.k = 2
      · have eD : doV ⟨s, l, R, []⟩ x = (delVT ⟨s, l, R, []⟩ x.at_).1 := (if_neg c0).trans ((if_neg c1).trans (if_pos c2))
        have hp := VDelete_c his R (by omega) x.at_
        have hr := RDelete_c his R (by omega) x.at_ hat
        obtain ⟨hv, ho⟩ := h.del x.at_
        rw [eD]
        generalize delVT ⟨s, l, R, []⟩ x.at_ = p at hp hr hv ho ⊢
        obtain ⟨v, o, e⟩ := p
        unfold resT at hp
        unfold resR at hr
        simp only at hp hr hv ho ⊢
        have hch := Changes8_c v.out (by omega)
        have his8 := Is8_c hv.is v.R (by have := hv.len; omega)
        refine Spl.t (decide_eq_true c2) ?_
        (repeat (first | refine Spl.t rfl ?_ | refine Spl.f rfl ?_))
        refine OpJ.callV hp (fun _ _ => rfl) rfl rfl rfl ?_
        (repeat (first | refine Spl.t rfl ?_ | refine Spl.f rfl ?_))
        refine OpJ.callV hr (fun _ _ => rfl) rfl rfl rfl ?_
        (repeat (first | refine Spl.t rfl ?_ | refine Spl.f rfl ?_))
        (first | refine Sq.go ?_ | refine vL_nil (Sq.go ?_) | skip)
        try refine vc_sound _ _ _ _ ?_
        refine RegP.mixS 24 [6, 7] rfl (by decide +kernel) ?_
        refine Spl.t (by simp) ?_
        (repeat (first | refine Spl.t rfl ?_ | refine Spl.f rfl ?_))
        refine QuietP.of (QJ.call (Of5_c o) (fun _ _ => rfl) rfl rfl) ?_
        (repeat (first | refine Spl.t rfl ?_ | refine Spl.f rfl ?_))
        refine QuietP.of (O.eqT 4 rfl rfl rfl rfl rfl eqRO_ok eqRO_g (eqRO o o)) ?_
        refine Spl.t (by simp) ?_
        (repeat (first | refine Spl.t rfl ?_ | refine Spl.f rfl ?_))
        refine QuietP.of (QJ.call hch (fun _ _ => rfl) rfl rfl) ?_
        (repeat (first | refine Spl.t rfl ?_ | refine Spl.f rfl ?_))
        refine QuietP.of (QJ.call his8 (fun _ _ => rfl) rfl rfl) ?_
        exact FinP.open rfl rfl
      · have eD : doV ⟨s, l, R, []⟩ x = ⟨s, l, R, []⟩ := (if_neg c0).trans ((if_neg c1).trans (if_neg c2))
        rw [eD]
        refine Spl.f (decide_eq_false c2) ?_
        (repeat (first | refine Spl.t rfl ?_ | refine Spl.f rfl ?_))
        refine RegP.mixS 5 [6, 7] rfl (by decide +kernel) ?_
        refine .out (by simp) ?_
        exact FinP.open rfl rfl
end Go.Proofs.E
end
section
open Go Go.Gv
attribute [local irreducible] Go.Gv.WJ Go.Gv.OpJ Go.Gv.QJ Go.Gv.Spl Go.Gv.Req Go.Gv.IdxP Go.Gv.RegP Go.Gv.FinP Go.Gv.CellP Go.Gv.CellsP Go.Gv.ArrP Go.Gv.ArrsP Go.Gv.DropP Go.Gv.ByteP Go.Gv.StoreP
set_option maxRecDepth 100000
namespace Go.Proofs.E
attribute [local irreducible] elems
theorem nilRoom {γ : Ids} {H : HF} {u : Value} (r : Rep γ H (.agg [.d (.v (.slice none 0 0))]) u) : Rep γ H (rmv []) u := rep_agg_set (j := 0) r rfl fun _ h => nil_sl 6 h
theorem AddN_c (o : OP) : Cv 59 [.agg [.d (.v (.slice none 0 0))], opv o] (.tup [rmv (addR [] o), iv (addE [] o)]) := by
  refine Ct.view (Add_c [] o (by decide)) rfl fun j a b ha hb γ H u r => ?_
  match j, ha, hb with
  | 0, ha, hb => cases ha; cases hb; exact nilRoom r
  | 1, ha, hb => cases ha; cases hb; exact r
def aw7 : OP := ⟨0, ⟨2, 1⟩, ⟨1, 1⟩, 98⟩
theorem Awake7_c : Cv 55 [] (bv true) := by
  have hadd := AddN_c aw7
  rw [show addR [] aw7 = [aw7] by decide +kernel, show addE [] aw7 = 0 by decide +kernel] at hadd
  have hnx := Next_c isS_nil [aw7] (by decide)
  rw [show nextR [] [aw7] = [aw7] by decide +kernel, show nextO [] [aw7] = OP0 by decide +kernel, show decide (0 ≤ nextIx [] [aw7]) = false by decide +kernel] at hnx
  have hln := RLen_c [aw7]
  have htp := Top_c [aw7] (by decide)
  rw [show topR [aw7] = 2 by decide +kernel] at htp
  refine Ct.of_wv Tryz.f55 Tryz.func55 rfl rfl fun w H B g0 => ?_
  try refine WJ.cut ?_
  (first | refine Sq.go ?_ | refine vL_nil (Sq.go ?_) | skip)
  try refine WJ.cut ?_
  refine OpJ.callV hadd (fun _ _ => rfl) rfl rfl rfl ?_
  (first | refine Sq.go ?_ | refine vL_nil (Sq.go ?_) | skip)
  try refine WJ.cut ?_
  refine OpJ.callV hnx (fun _ _ => rfl) rfl rfl rfl ?_
  (first | refine Sq.go ?_ | refine vL_nil (Sq.go ?_) | skip)
  try refine WJ.cut ?_
  refine OpJ.callV Awake6_c (fun _ _ => rfl) rfl rfl rfl ?_
  (repeat (first | refine Spl.t rfl ?_ | refine Spl.f rfl ?_))
  refine OpJ.callV hln (fun _ _ => rfl) rfl rfl rfl ?_
  (repeat (first | refine Spl.t rfl ?_ | refine Spl.f rfl ?_))
  refine OpJ.callV htp (fun _ _ => rfl) rfl rfl rfl ?_
  (repeat (first | refine Spl.t rfl ?_ | refine Spl.f rfl ?_))
  (first | refine Sq.go ?_ | refine vL_nil (Sq.go ?_) | skip)
  try refine vc_sound _ _ _ _ ?_
  exact FinP.open rfl rfl
end Go.Proofs.E
end
section
open Go Go.Gv
attribute [local irreducible] Go.Gv.WJ Go.Gv.OpJ Go.Gv.QJ Go.Gv.Spl Go.Gv.Req Go.Gv.IdxP Go.Gv.RegP Go.Gv.FinP Go.Gv.CellP Go.Gv.CellsP Go.Gv.ArrP Go.Gv.ArrsP Go.Gv.DropP Go.Gv.ByteP Go.Gv.StoreP
set_option maxRecDepth 100000
namespace Go.Proofs.E
attribute [local irreducible] elems
theorem nilV {γ : Ids} {H : HF} {u : Value} {t p : D} {n m k : Int} {z1 z2 : AV} (r : Rep γ H (.agg [.d t, .d p, iv n, .d (.v (.slice none 0 0)), iv m, iv k, z1, z2]) u) : Rep γ H (.agg [.d t, .d p, iv n, .d (.sl 6 []), iv m, iv k, z1, z2]) u := rep_agg_set (j := 3) r rfl fun _ h => nil_sl 6 h
/-- The zero version, as it lies. -/
abbrev vvN : AV := .agg [.d TR.nil.d, .d PT.nil.d, iv 0, .d (.v (.slice none 0 0)), iv 0, iv 0, cx 0 0, cx 0 0]
def vA0 : VS := ⟨⟨.nil, .nil, 0⟩, [], [], []⟩
theorem okA0 : okV vA0 := ⟨isS_nil, fun _ h => by simp [vA0] at h, by simp [vA0]⟩
def pA1 : VS × OP × Int := insVT vA0 1 0 97
def vA1 : VS := ⟨pA1.1.s, pA1.1.l, pA1.1.R, []⟩
def pA2 : VS × OP × Int := insVT vA1 1 1 98
def vA2 : VS := ⟨pA2.1.s, pA2.1.l, pA2.1.R, []⟩
def pA3 : VS × OP × Int := delVT vA2 0
theorem okV.out {v : VS} (h : okV v) : okV ⟨v.s, v.l, v.R, []⟩ := ⟨h.is, h.ck, h.len⟩
theorem okA1 : okV vA1 := (okA0.ins 1 0 97).1.out
theorem okA2 : okV vA2 := (okA1.ins 1 1 98).1.out
theorem okA3 : okV pA3.1 := (okA2.del 0).1
theorem InsN_c (site at_ ch : Int) : Cv 12 [vvN, iv site, iv at_, cv' ch] (resT (insVT vA0 site at_ ch)) := by
  refine Ct.view (VInsert_c (s := vA0.s) (l := vA0.l) okA0.is vA0.R (by decide) okA0.ck site at_ ch) rfl fun j a b ha hb γ H u r => ?_
  match j, ha, hb with
  | 0, ha, hb => cases ha; cases hb; exact nilV r
  | 1, ha, hb => cases ha; cases hb; exact r
  | 2, ha, hb => cases ha; cases hb; exact r
  | 3, ha, hb => cases ha; cases hb; exact r
theorem aw_l : byt (txtZ (rowE pA3.1.l)) = [98] := by decide +kernel
theorem aw_n : pA3.1.l.length = 3 := by decide +kernel
theorem aw_e : pA3.2.2 = 0 := by decide +kernel
theorem aw_out : pA3.1.out = [⟨3, 0, ⟨1, 1⟩, 97, true⟩] := by decide +kernel
theorem Awake8_c : Cv 10 [] (bv true) := by
  have h1 := InsN_c 1 0 97
  have h2 := VInsert_c okA1.is vA1.R (by have := okA1.len; omega) okA1.ck 1 1 98
  have h3 := VDelete_c okA2.is vA2.R (by have := okA2.len; omega) 0
  have tx := VText_c okA3.is pA3.1.R
  have sq := VSeq_c pA3.1.s pA3.1.l pA3.1.R
  rw [aw_l] at tx
  rw [aw_n] at sq
  have e1 : insVT vA0 1 0 97 = pA1 := rfl
  have e2 : insVT ⟨vA1.s, vA1.l, vA1.R, []⟩ 1 1 98 = pA2 := rfl
  have e3 : delVT ⟨vA2.s, vA2.l, vA2.R, []⟩ 0 = pA3 := rfl
  rw [e1] at h1
  rw [e2] at h2
  rw [e3] at h3
  have d1 : vA1 = ⟨pA1.1.s, pA1.1.l, pA1.1.R, []⟩ := rfl
  have d2 : vA2 = ⟨pA2.1.s, pA2.1.l, pA2.1.R, []⟩ := rfl
  rw [d1] at h2
  rw [d2] at h3
  have ho := aw_out
  have he := aw_e
  generalize pA3 = p3 at h3 tx sq ho he
  generalize pA2 = p2 at h2 h3
  generalize pA1 = p1 at h1 h2
  obtain ⟨v3, o3, e3'⟩ := p3
  obtain ⟨v2, o2, e2'⟩ := p2
  obtain ⟨v1, o1, e1'⟩ := p1
  unfold resT at h1 h2 h3
  simp only at h1 h2 h3 tx sq ho he
  rw [ho, he] at h3
  refine Ct.of_wv Tryz.f10 Tryz.func10 rfl rfl fun w H B g0 => ?_
  try refine WJ.cut ?_
  (first | refine Sq.go ?_ | refine vL_nil (Sq.go ?_) | skip)
  try refine WJ.cut ?_
  refine OpJ.callV h1 (fun _ _ => rfl) rfl rfl rfl ?_
  (repeat (first | refine Spl.t rfl ?_ | refine Spl.f rfl ?_))
  (first | refine Sq.go ?_ | refine vL_nil (Sq.go ?_) | skip)
  try refine WJ.cut ?_
  refine OpJ.callV h2 (fun _ _ => rfl) rfl rfl rfl ?_
  (repeat (first | refine Spl.t rfl ?_ | refine Spl.f rfl ?_))
  (first | refine Sq.go ?_ | refine vL_nil (Sq.go ?_) | skip)
  try refine WJ.cut ?_
  refine OpJ.callV h3 (fun _ _ => rfl) rfl rfl rfl ?_
  (repeat (first | refine Spl.t rfl ?_ | refine Spl.f rfl ?_))
  (first | refine Sq.go ?_ | refine vL_nil (Sq.go ?_) | skip)
  try refine vc_sound _ _ _ _ ?_
  refine OpJ.callV Awake2_c (fun _ _ => rfl) rfl rfl rfl ?_
  (repeat (first | refine Spl.t rfl ?_ | refine Spl.f rfl ?_))
  refine OpJ.callV Awake7_c (fun _ _ => rfl) rfl rfl rfl ?_
  (repeat (first | refine Spl.t rfl ?_ | refine Spl.f rfl ?_))
  refine OpJ.callV tx (fun _ _ => rfl) rfl rfl rfl ?_
  (repeat (first | refine Spl.t rfl ?_ | refine Spl.f rfl ?_))
  (try refine Spl.t (by decide) ?_)
  (repeat (first | refine Spl.t rfl ?_ | refine Spl.f rfl ?_))
  refine OpJ.callV sq (fun _ _ => rfl) rfl rfl rfl ?_
  (repeat (first | refine Spl.t rfl ?_ | refine Spl.f rfl ?_))
  (try refine Spl.t (by decide) ?_)
  (repeat (first | refine Spl.t rfl ?_ | refine Spl.f rfl ?_))
  refine IdxP.of (chD ⟨3, 0, ⟨1, 1⟩, 97, true⟩) (by decide) rfl ?_
  (repeat (first | refine Spl.t rfl ?_ | refine Spl.f rfl ?_))
  refine IdxP.of (chD ⟨3, 0, ⟨1, 1⟩, 97, true⟩) (by decide) rfl ?_
  (repeat (first | refine Spl.t rfl ?_ | refine Spl.f rfl ?_))
  exact FinP.open rfl rfl
end Go.Proofs.E
end
section
open Go Go.Gv
attribute [local irreducible] Go.Gv.WJ Go.Gv.OpJ Go.Gv.QJ Go.Gv.Spl Go.Gv.Req Go.Gv.IdxP Go.Gv.RegP Go.Gv.FinP Go.Gv.CellP Go.Gv.CellsP Go.Gv.ArrP Go.Gv.ArrsP Go.Gv.DropP Go.Gv.ByteP Go.Gv.StoreP
set_option maxRecDepth 100000
namespace Go.Proofs.E
attribute [local irreducible] elems
def okAct (x : ACT) : Prop := (-9223372036854775808 ≤ x.at_ ∧ x.at_ ≤ 9223372036854775807) ∧ (-2147483648 ≤ x.ch ∧ x.ch ≤ 2147483647)
theorem actRow (cs : List D) (h : (Ty.st [.int .u8, .st [.int .i64, .st [.int .i64, .int .i64], .st [.int .i64, .int .i64], .int .i32], .int .i64, .int .i64, .int .i32]).ok cs) : ∃ x : ACT, cs = actD x ∧ okAct x := by
  obtain ⟨_, _, rfl, ⟨k, rfl, _⟩, ⟨_, _, rfl, ⟨_, _, rfl, ⟨a0, rfl, _⟩, ⟨_, _, rfl, ⟨_, _, rfl, ⟨a1, rfl, _⟩, ⟨_, _, rfl, ⟨a2, rfl, _⟩, rfl⟩⟩, ⟨_, _, rfl, ⟨_, _, rfl, ⟨a3, rfl, _⟩, ⟨_, _, rfl, ⟨a4, rfl, _⟩, rfl⟩⟩, ⟨_, _, rfl, ⟨a5, rfl, _⟩, rfl⟩⟩⟩⟩, ⟨_, _, rfl, ⟨s, rfl, _⟩, ⟨_, _, rfl, ⟨at_, rfl, w⟩, ⟨_, _, rfl, ⟨ch, rfl, w2⟩, rfl⟩⟩⟩⟩⟩ := h
  exact ⟨⟨k, ⟨a0, ⟨a1, a2⟩, ⟨a3, a4⟩, a5⟩, s, at_, ch⟩, rfl, i64_rng w, i32_rng w2⟩
end Go.Proofs.E
end
section
open Go Go.Gv
attribute [local irreducible] Go.Gv.WJ Go.Gv.OpJ Go.Gv.QJ Go.Gv.Spl Go.Gv.Req Go.Gv.IdxP Go.Gv.RegP Go.Gv.FinP Go.Gv.CellP Go.Gv.CellsP Go.Gv.ArrP Go.Gv.ArrsP Go.Gv.DropP Go.Gv.ByteP Go.Gv.StoreP
set_option maxRecDepth 100000
namespace Go.Proofs.E
attribute [local irreducible] elems
def curAt (L : List EL) (k : Int) : ID × Int := if k = liveL L then (⟨0, 0⟩, 0) else if 0 ≤ k ∧ k < liveL L then (nameL L k, 0) else (⟨0, 0⟩, 2)
def resC (L : List EL) (a : ID) : Int × Int := if noneI a = true then (liveL L, 0) else if 0 ≤ placeL a L then (rankL L (placeL a L), 0) else (0, 6)
def aliveC (L : List EL) (a : ID) : Bool := noneI a || (decide (0 ≤ placeL a L) && !((L[(placeL a L).toNat]?).getD EL0).dead)
/-! ### Places and ranks -/
theorem sel_alive : ∀ (L : List EL) (k : Nat), k < liveL L → ∃ e, L[selL k L]? = some e ∧ e.dead = false
  | [], k, h => by simp [liveL] at h
  | e :: L, k, h => by
    rw [live_cons] at h
    rw [selL]
    cases hd : e.dead with
    | true =>
      have h1 : TR.one e = 0 := by unfold TR.one; rw [hd]
      obtain ⟨x, h2, h3⟩ := sel_alive L k (by omega)
      simp only [if_true]
      exact ⟨x, by simpa using h2, h3⟩
    | false =>
      have h1 : TR.one e = 1 := by unfold TR.one; rw [hd]
      simp only [Bool.false_eq_true, if_false]
      by_cases h0 : k = 0
      · rw [if_pos h0]; exact ⟨e, rfl, hd⟩
      · rw [if_neg h0]
        obtain ⟨x, h2, h3⟩ := sel_alive L (k - 1) (by omega)
        exact ⟨x, by simpa using h2, h3⟩
theorem sel_rank : ∀ (L : List EL) (p : Nat) (e : EL), L[p]? = some e → e.dead = false → selL (rankL L (p : Nat)) L = p ∧ rankL L (p : Nat) < liveL L
  | [], p, e, h, _ => by simp at h
  | x :: L, 0, e, h, hd => by
    cases h
    have h1 : rankL (x :: L) ((0 : Nat) : Int) = 0 := rfl
    rw [h1, selL, live_cons]
    rw [if_neg (by rw [hd]; decide), if_pos rfl]
    have : TR.one x = 1 := by unfold TR.one; rw [hd]
    exact ⟨rfl, by omega⟩
  | x :: L, p + 1, e, h, hd => by
    obtain ⟨i1, i2⟩ := sel_rank L p e (by simpa using h) hd
    have h1 : rankL (x :: L) ((p + 1 : Nat) : Int) = TR.one x + rankL L (p : Nat) := by
      unfold rankL TR.one
      rw [Int.toNat_natCast, Int.toNat_natCast, List.take_succ_cons, List.filter_cons]
      cases x.dead <;> simp; omega
    rw [h1, selL, live_cons]
    cases hx : x.dead with
    | true =>
      have : TR.one x = 0 := by unfold TR.one; rw [hx]
      simp only [if_true]
      rw [this, Nat.zero_add, i1]
      exact ⟨rfl, by omega⟩
    | false =>
      have : TR.one x = 1 := by unfold TR.one; rw [hx]
      simp only [Bool.false_eq_true, if_false]
      rw [this, if_neg (by omega), show 1 + rankL L (p : Nat) - 1 = rankL L (p : Nat) by omega, i1]
      exact ⟨rfl, by omega⟩
theorem name_get {L : List EL} {k : Nat} (h : k < liveL L) : ∃ e, L[selL k L]? = some e ∧ e.dead = false ∧ nameL L k = e.id := by
  obtain ⟨e, h1, h2⟩ := sel_alive L k h
  refine ⟨e, h1, h2, ?_⟩
  unfold nameL
  rw [if_pos (by omega), Int.toNat_natCast, h1]; rfl
/-- Whether one is alive, by its rank. -/
theorem alive_rank {l : List OP} (h : Dn l) {a : ID} (hp : 0 ≤ placeL a (rowE l)) :
    (decide ((rankL (rowE l) (placeL a (rowE l)) : Int) < liveL (rowE l)) && decide (nameL (rowE l) (rankL (rowE l) (placeL a (rowE l)) : Nat) = a)) = !((rowE l)[(placeL a (rowE l)).toNat]?.getD EL0).dead := by
  obtain ⟨e, h1, h2, _⟩ := placeL_get hp
  have hnd := row_nd h
  rw [h1]
  have hpn : ((placeL a (rowE l)).toNat : Int) = placeL a (rowE l) := Int.toNat_of_nonneg hp
  generalize (placeL a (rowE l)).toNat = p at h1 hpn
  rw [← hpn]
  simp only [Option.getD_some]
  cases hd : e.dead with
  | false =>
    obtain ⟨i1, i2⟩ := sel_rank (rowE l) p e h1 hd
    have hn : nameL (rowE l) (rankL (rowE l) (p : Nat) : Nat) = a := by
      unfold nameL
      rw [if_pos (by omega), Int.toNat_natCast, i1, h1]; exact h2
    rw [hn, decide_eq_true (by omega)]; simp
  | true =>
    by_cases hk : rankL (rowE l) (p : Nat) < liveL (rowE l)
    · obtain ⟨x, j1, j2, j3⟩ := name_get hk
      have hne : ¬ nameL (rowE l) (rankL (rowE l) (p : Nat) : Nat) = a := fun ha => by
        rw [j3] at ha
        have := pw_get hnd j1 h1 (by rw [ha, h2])
        rw [this, h1] at j1
        cases j1
        rw [hd] at j2; cases j2
      rw [decide_eq_false hne]; simp
    · rw [decide_eq_false (by omega)]; simp
/-! ### The program's cursor -/
theorem CAt_c {s : SS} {l : List OP} (h : isS s l) (R : List OP) (k : Int) : Cv 28 [vv s l R, iv k] (.tup [idv (curAt (rowE l) k).1, iv (curAt (rowE l) k).2]) := by
  have hlen := VLen_c h R
  have hn := VNamed_c h R k
  refine Ct.of_vc Tryz.f28 Tryz.func28 rfl rfl fun w H B g0 => ?_
  refine OpJ.callV hlen (fun _ _ => rfl) rfl rfl rfl ?_
  refine Spl.of (fun h1 => ?_) (fun h1 => ?_)
  · have h1 := of_decide_eq_true h1
    have e : curAt (rowE l) k = (⟨0, 0⟩, 0) := if_pos h1
    rw [e]
    (repeat (first | refine Spl.t rfl ?_ | refine Spl.f rfl ?_))
    exact FinP.open rfl rfl
  · have h1 := of_decide_eq_false h1
    by_cases h2 : 0 ≤ k ∧ k < liveL (rowE l)
    · have e : curAt (rowE l) k = (nameL (rowE l) k, 0) := (if_neg h1).trans (if_pos h2)
      rw [decide_eq_true h2] at hn
      rw [e]
      (repeat (first | refine Spl.t rfl ?_ | refine Spl.f rfl ?_))
      refine OpJ.callV hn (fun _ _ => rfl) rfl rfl rfl ?_
      (repeat (first | refine Spl.t rfl ?_ | refine Spl.f rfl ?_))
      exact FinP.open rfl rfl
    · have e : curAt (rowE l) k = (⟨0, 0⟩, 2) := (if_neg h1).trans (if_neg h2)
      rw [decide_eq_false h2] at hn
      rw [e]
      (repeat (first | refine Spl.t rfl ?_ | refine Spl.f rfl ?_))
      refine OpJ.callV hn (fun _ _ => rfl) rfl rfl rfl ?_
      (repeat (first | refine Spl.t rfl ?_ | refine Spl.f rfl ?_))
      exact FinP.open rfl rfl
theorem CResolve_c {s : SS} {l : List OP} (h : isS s l) (R : List OP) (a : ID) : Cv 29 [idv a, vv s l R] (.tup [iv (resC (rowE l) a).1, iv (resC (rowE l) a).2]) := by
  have hlen := VLen_c h R
  have hb := VBefore_c h R a
  refine Ct.of_vc Tryz.f29 Tryz.func29 rfl rfl fun w H B g0 => ?_
  refine OpJ.callV (None_c a) (fun _ _ => rfl) rfl rfl rfl ?_
  refine Spl.of (fun h1 => ?_) (fun h1 => ?_)
  · have e : resC (rowE l) a = (((liveL (rowE l) : Nat) : Int), 0) := if_pos h1
    rw [e]
    (repeat (first | refine Spl.t rfl ?_ | refine Spl.f rfl ?_))
    refine OpJ.callV hlen (fun _ _ => rfl) rfl rfl rfl ?_
    exact FinP.open rfl rfl
  · by_cases h2 : 0 ≤ placeL a (rowE l)
    · have e : resC (rowE l) a = (((rankL (rowE l) (placeL a (rowE l)) : Nat) : Int), 0) := (if_neg (by rw [h1]; exact Bool.false_ne_true)).trans (if_pos h2)
      rw [decide_eq_true h2, show beforeL (rowE l) a = rankL (rowE l) (placeL a (rowE l)) from if_pos h2] at hb
      rw [e]
      (repeat (first | refine Spl.t rfl ?_ | refine Spl.f rfl ?_))
      refine OpJ.callV hb (fun _ _ => rfl) rfl rfl rfl ?_
      (repeat (first | refine Spl.t rfl ?_ | refine Spl.f rfl ?_))
      exact FinP.open rfl rfl
    · have e : resC (rowE l) a = (0, 6) := (if_neg (by rw [h1]; exact Bool.false_ne_true)).trans (if_neg h2)
      rw [decide_eq_false h2] at hb
      rw [e]
      (repeat (first | refine Spl.t rfl ?_ | refine Spl.f rfl ?_))
      refine OpJ.callV hb (fun _ _ => rfl) rfl rfl rfl ?_
      (repeat (first | refine Spl.t rfl ?_ | refine Spl.f rfl ?_))
      exact FinP.open rfl rfl
theorem CAlive_c {s : SS} {l : List OP} (h : isS s l) (R : List OP) (a : ID) : Cv 30 [idv a, vv s l R] (bv (aliveC (rowE l) a)) := by
  have hb := VBefore_c h R a
  have hn := VNamed_c h R (beforeL (rowE l) a)
  refine Ct.of_vc Tryz.f30 Tryz.func30 rfl rfl fun w H B g0 => ?_
  refine OpJ.callV (None_c a) (fun _ _ => rfl) rfl rfl rfl ?_
  refine Spl.of (fun h1 => ?_) (fun h1 => ?_)
  · have e : aliveC (rowE l) a = true := by unfold aliveC; rw [h1]; rfl
    rw [e]
    (repeat (first | refine Spl.t rfl ?_ | refine Spl.f rfl ?_))
    exact FinP.open rfl rfl
  · by_cases h2 : 0 ≤ placeL a (rowE l)
    · have e : aliveC (rowE l) a = !((rowE l)[(placeL a (rowE l)).toNat]?.getD EL0).dead := by unfold aliveC; rw [h1, decide_eq_true h2]; rfl
      have har := alive_rank h.dn h2
      rw [decide_eq_true h2] at hb
      rw [show beforeL (rowE l) a = ((rankL (rowE l) (placeL a (rowE l)) : Nat) : Int) from if_pos h2] at hb hn
      rw [e, ← har]
      generalize rankL (rowE l) (placeL a (rowE l)) = n at hb hn ⊢
      have hd : decide (0 ≤ (n : Int) ∧ (n : Int) < liveL (rowE l)) = decide ((n : Int) < liveL (rowE l)) := decide_eq_decide.2 ⟨fun h => h.2, fun h => ⟨by omega, h⟩⟩
      rw [hd] at hn
      generalize decide ((n : Int) < liveL (rowE l)) = b at hn ⊢
      generalize nameL (rowE l) (n : Nat) = nm at hn ⊢
      (repeat (first | refine Spl.t rfl ?_ | refine Spl.f rfl ?_))
      refine OpJ.callV hb (fun _ _ => rfl) rfl rfl rfl ?_
      (repeat (first | refine Spl.t rfl ?_ | refine Spl.f rfl ?_))
      refine OpJ.callV hn (fun _ _ => rfl) rfl rfl rfl ?_
      (repeat (first | refine Spl.t rfl ?_ | refine Spl.f rfl ?_))
      refine Spl.of (fun h3 => ?_) (fun h3 => ?_)
      · subst h3
        (repeat (first | refine Spl.t rfl ?_ | refine Spl.f rfl ?_))
        refine OpJ.qu (O.eqT 3 rfl rfl rfl rfl rfl eqI_ok eqI_g (eqI nm a)) rfl ?_
        exact FinP.open rfl rfl
      · subst h3
        (repeat (first | refine Spl.t rfl ?_ | refine Spl.f rfl ?_))
        exact FinP.open rfl rfl
    · have e : aliveC (rowE l) a = false := by unfold aliveC; rw [h1, decide_eq_false h2]; rfl
      rw [decide_eq_false h2] at hb
      rw [e]
      (repeat (first | refine Spl.t rfl ?_ | refine Spl.f rfl ?_))
      refine OpJ.callV hb (fun _ _ => rfl) rfl rfl rfl ?_
      (repeat (first | refine Spl.t rfl ?_ | refine Spl.f rfl ?_))
      refine OpJ.callV hn (fun _ _ => rfl) rfl rfl rfl ?_
      (repeat (first | refine Spl.t rfl ?_ | refine Spl.f rfl ?_))
      exact FinP.open rfl rfl
end Go.Proofs.E
end
section
open Go Go.Gv
attribute [local irreducible] Go.Gv.WJ Go.Gv.OpJ Go.Gv.QJ Go.Gv.Spl Go.Gv.Req Go.Gv.IdxP Go.Gv.RegP Go.Gv.FinP Go.Gv.CellP Go.Gv.CellsP Go.Gv.ArrP Go.Gv.ArrsP Go.Gv.DropP Go.Gv.ByteP Go.Gv.StoreP
set_option maxRecDepth 100000
namespace Go.Proofs.E
attribute [local irreducible] elems
def playA (acts : List ACT) : VS := acts.foldl (fun v x => ⟨(doV v x).s, (doV v x).l, (doV v x).R, []⟩) vA0
theorem play_snoc (acts : List ACT) (x : ACT) : playA (acts ++ [x]) = ⟨(doV (playA acts) x).s, (doV (playA acts) x).l, (doV (playA acts) x).R, []⟩ := by unfold playA; rw [List.foldl_append]; rfl
theorem play_ok (acts : List ACT) : okV (playA acts) ∧ (playA acts).out = [] := by
  unfold playA
  have : ∀ (l : List ACT) (v : VS), okV v → v.out = [] → okV (l.foldl (fun v x => ⟨(doV v x).s, (doV v x).l, (doV v x).R, []⟩) v) ∧ (l.foldl (fun v x => ⟨(doV v x).s, (doV v x).l, (doV v x).R, []⟩) v).out = [] := fun l => by
    induction l with
    | nil => exact fun v h1 h2 => ⟨h1, h2⟩
    | cons x l ih => exact fun v h1 h2 => ih _ (h1.act x).out rfl
  exact this acts vA0 okA0 rfl
theorem played_c (acts : List ACT) (hn : acts.length ≤ 1000) (hacts : ∀ x, x ∈ acts → okAct x) : Cv 27 [.d (.sl 10 (acts.map actD))] (.tup [vv (playA acts).s (playA acts).l (playA acts).R, rvv (playA acts).l (playA acts).R, bv true]) := by
  refine Ct.of_wv Tryz.f27 Tryz.func27 rfl rfl fun w H B g0 => ?_
  try refine WJ.cut ?_
  (first | refine Sq.go ?_ | refine vL_nil (Sq.go ?_) | skip)
  try refine WJ.cut ?_
  (first | refine Sq.go ?_ | refine vL_nil (Sq.go ?_) | skip)
  refine WJ.shift (SJ.viewCell 5 3 rfl rfl fun _ _ _ h => nil_sl 6 h) ?_
  try refine WJ.cut ?_
  (first | refine Sq.go ?_ | refine vL_nil (Sq.go ?_) | skip)
  refine WJ.shift (SJ.viewCell 6 0 rfl rfl fun _ _ _ h => nil_sl 6 h) ?_
  refine WJ.shift (SJ.viewCell 6 1 rfl rfl fun _ _ _ h => nil_sl 6 h) ?_
  try refine WJ.cut ?_
  refine WJ.loopK (V := Nat × VS) (fun v => [(12, iv v.1)]) (fun v => [(5, .cells (vcs v.2.s v.2.l v.2.R)), (6, .cells [.d (.sl 6 (v.2.l.map opD)), .d (.sl 6 (v.2.R.map opD))])]) [5, 6] (fun v => acts.length - v.1) (fun v => v.1 ≤ acts.length ∧ v.2 = playA (acts.take v.1)) (0, vA0) ⟨by simp, rfl⟩ (by repeat' (first | exact trivial | exact rfl | refine And.intro ?_ ?_)) (by repeat' (first | exact trivial | exact rfl | refine And.intro ?_ ?_)) ?_
  rintro ⟨i, v⟩ ⟨hi, hpl⟩
  simp only at hi hpl
  obtain ⟨hv, ho⟩ := play_ok (acts.take i)
  rw [← hpl] at hv ho
  refine Spl.of (fun h1 => ?_) (fun h1 => ?_)
  · have hlt : i < acts.length := by have := of_decide_eq_true h1; simp at this; omega
    have hx : acts[i]? = some acts[i] := by simp
    have hax := hacts _ (List.getElem_mem hlt)
    have hsn := play_snoc (acts.take i) acts[i]
    rw [← take_snoc hx, ← hpl] at hsn
    generalize acts[i] = x at hx hax hsn
    obtain ⟨s, l, R, out⟩ := v
    simp only at ho
    subst ho
    have hdo := Do8_c hv x hax.1.2
    generalize doV ⟨s, l, R, []⟩ x = v at hdo hsn
    (repeat (first | refine Spl.t rfl ?_ | refine Spl.f rfl ?_))
    refine IdxP.of (actD x) (by omega) (by simp [hx]) ?_
    (repeat (first | refine Spl.t rfl ?_ | refine Spl.f rfl ?_))
    refine OpJ.callV hdo (fun _ _ => rfl) rfl rfl rfl ?_
    (repeat (first | refine Spl.t rfl ?_ | refine Spl.f rfl ?_))
    exact ⟨(i + 1, ⟨v.s, v.l, v.R, []⟩), ⟨by simp only; omega, hsn.symm⟩, by simp only; omega, ⟨some_iv (wrap_id _ (by omega) (by omega)), trivial⟩, (by repeat' (first | exact trivial | exact rfl | refine And.intro ?_ ?_)), (by repeat' (first | exact trivial | exact rfl | refine And.intro ?_ ?_)), (by repeat' (first | exact trivial | exact rfl | refine And.intro ?_ ?_))⟩
  · have hie : i = acts.length := by have := of_decide_eq_false h1; simp at this; omega
    subst hie
    rw [List.take_length] at hpl
    rw [← hpl]
    (repeat (first | refine Spl.t rfl ?_ | refine Spl.f rfl ?_))
    (first | refine Sq.go ?_ | refine vL_nil (Sq.go ?_) | skip)
    try refine vc_sound _ _ _ _ ?_
    refine RegP.mixS 5 [2, 3] rfl (by decide +kernel) ?_
    exact FinP.open rfl rfl
end Go.Proofs.E
end
section
open Go Go.Gv
attribute [local irreducible] Go.Gv.WJ Go.Gv.OpJ Go.Gv.QJ Go.Gv.Spl Go.Gv.Req Go.Gv.IdxP Go.Gv.RegP Go.Gv.FinP Go.Gv.CellP Go.Gv.CellsP Go.Gv.ArrP Go.Gv.ArrsP Go.Gv.DropP Go.Gv.ByteP Go.Gv.StoreP
set_option maxRecDepth 100000
namespace Go.Proofs.E
/-! ### Nothing that waits could be done -/
def sat (v : VS) : Prop := ∀ x, x ∈ v.R → wrongO v.l x = 6
theorem nextIx_sat {l : List OP} : ∀ {R : List OP}, nextIx l R < 0 → ∀ x, x ∈ R → wrongO l x = 6
  | [], _, x, hx => by simp at hx
  | o :: r, h, x, hx => by
    rw [nextIx] at h
    split at h
    · omega
    · next h1 =>
      have h1 : wrongO l o = 6 := Classical.byContradiction h1
      split at h
      · next h2 =>
        rcases List.mem_cons.1 hx with rfl | hx
        · exact h1
        · exact nextIx_sat h2 x hx
      · omega
theorem sat_next {v : VS} (h : sat v) : nextIx v.l v.R < 0 := by rw [nextIx_none v.l v.R h]; decide
theorem drn_sat : ∀ (n : Nat) (v : VS), v.R.length ≤ n → sat (drn n v)
  | 0, v, h => by
    have : v.R = [] := List.length_eq_zero_iff.1 (by omega)
    intro x hx
    rw [drn, this] at hx; simp at hx
  | n + 1, v, h => by
    rw [drn]
    split
    · next h1 => exact nextIx_sat h1
    · next h1 =>
      refine drn_sat n v.next ?_
      have := nextR_lt h1
      have e : v.next.R = nextR v.l v.R := rfl
      rw [e]; omega
theorem drn_id (n : Nat) {v : VS} (h : sat v) : drn n v = v := by
  cases n with
  | zero => rfl
  | succ n => rw [drn, if_pos (sat_next h)]
theorem sat_rem {v : VS} (h : sat v) (o : OP) : sat (remV v o) := by
  unfold remV
  split
  · exact drn_sat _ _ (Nat.le_refl _)
  · split
    · next h6 =>
      intro x hx
      simp only at hx ⊢
      unfold addR at hx
      split at hx
      · rcases List.mem_append.1 hx with hx | hx
        · exact h x hx
        · rw [List.mem_singleton.1 hx]; exact h6
      · exact h x hx
    · exact h
theorem sat_doT {v : VS} (h : sat v) (o : OP) : sat (doT v o).1 := by
  unfold doT
  split
  · exact h
  · exact sat_rem h o
theorem sat_do {v : VS} (h : sat v) (x : ACT) : sat (doV v x) := by
  unfold doV
  split
  · exact sat_rem h _
  · split
    · unfold insVT
      split
      · exact h
      · split
        · exact h
        · split
          · exact h
          · exact sat_doT h _
    · split
      · unfold delVT
        split
        · exact sat_doT h _
        · exact h
      · exact h
theorem play_sat (acts : List ACT) : sat (playA acts) := by
  unfold playA
  have : ∀ (l : List ACT) (v : VS), sat v → sat (l.foldl (fun v x => ⟨(doV v x).s, (doV v x).l, (doV v x).R, []⟩) v) := fun l => by
    induction l with
    | nil => exact fun v h => h
    | cons x l ih => exact fun v h => ih _ (sat_do h x)
  exact this acts vA0 fun x hx => by simp [vA0] at hx
theorem six_of {l l' : List OP} {x : OP} (f1 : findO 0 x.i l' = findO 0 x.i l) (f2 : findO 0 x.a l' = findO 0 x.a l) (h : wrongO l x = 6) : wrongO l' x = 6 := by
  unfold wrongO at h ⊢
  by_cases hc : checkO x ≠ 0
  · rw [if_pos hc] at h ⊢; exact h
  · rw [if_neg hc] at h ⊢
    rw [f1, f2]
    by_cases hk : x.k = 1
    · rw [if_pos hk] at h ⊢
      by_cases hs : (findO 0 x.i l).isSome = true
      · rw [if_pos hs] at h; split at h <;> cases h
      · rw [if_neg hs]
    · rw [if_neg hk] at h ⊢
      by_cases a1 : findO 0 x.i l = some x
      · rw [if_pos a1] at h; cases h
      · rw [if_neg a1] at h ⊢
        by_cases a2 : (findO 0 x.i l).isSome = true
        · rw [if_pos a2] at h; cases h
        · rw [if_neg a2] at h ⊢
          by_cases a3 : x.a ≠ ⟨0, 0⟩ ∧ (findO 0 x.a l).isSome = false
          · rw [if_pos a3]
          · rw [if_neg a3] at h; split at h <;> cases h
theorem find_snoc {l : List OP} {o : OP} {a : ID} (h : o.k ≠ 0 ∨ o.i ≠ a) : findO 0 a (l ++ [o]) = findO 0 a l := by
  have : findO 0 a [o] = none := by
    rw [findO, if_neg (fun e => by rcases h with h | h; exact h e.1; exact h e.2)]; rfl
  rw [findO_app, this, Option.or_none]
/-! ### Ranks -/
theorem rank_mono (L : List EL) {i j : Nat} (h : i ≤ j) : rankL L (i : Nat) ≤ rankL L (j : Nat) := by
  unfold rankL
  rw [Int.toNat_natCast, Int.toNat_natCast]
  have e : L.take i = (L.take j).take i := by rw [List.take_take, Nat.min_eq_left h]
  rw [e]
  have := (List.take_append_drop i (L.take j))
  conv => rhs; rw [← this]
  rw [List.filter_append, List.length_append]; omega
theorem rank_sel : ∀ (L : List EL) (k : Nat), k < liveL L → rankL L (selL k L : Nat) = k
  | [], k, h => by simp [liveL] at h
  | x :: L, k, h => by
    have h1 : ∀ p : Nat, rankL (x :: L) ((p + 1 : Nat) : Int) = TR.one x + rankL L (p : Nat) := fun p => by
      unfold rankL TR.one
      rw [Int.toNat_natCast, Int.toNat_natCast, List.take_succ_cons, List.filter_cons]
      cases x.dead <;> simp; omega
    rw [live_cons] at h
    rw [selL]
    cases hx : x.dead with
    | true =>
      have h2 : TR.one x = 0 := by unfold TR.one; rw [hx]
      simp only [if_true]
      rw [h1, h2, rank_sel L k (by omega)]; omega
    | false =>
      have h2 : TR.one x = 1 := by unfold TR.one; rw [hx]
      simp only [Bool.false_eq_true, if_false]
      by_cases h0 : k = 0
      · rw [if_pos h0, h0]; rfl
      · rw [if_neg h0, h1, h2, rank_sel L (k - 1) (by omega)]; omega
theorem rank_app (A B : List EL) {i : Nat} (h : A.length ≤ i) : rankL (A ++ B) (i : Nat) = liveL A + rankL B ((i - A.length : Nat) : Nat) := by
  unfold rankL liveL
  rw [Int.toNat_natCast, Int.toNat_natCast, List.take_append, List.take_of_length_le h, List.filter_append, List.length_append]
theorem rank_lt (A B : List EL) {i : Nat} (h : i ≤ A.length) : rankL (A ++ B) (i : Nat) = rankL A (i : Nat) := rank_left A B i (by omega)
theorem one_alive {e : EL} (h : e.dead = false) : TR.one e = 1 := by unfold TR.one; rw [h]
theorem one_dead {e : EL} (h : e.dead = true) : TR.one e = 0 := by unfold TR.one; rw [h]
theorem rank_cons (x : EL) (L : List EL) (p : Nat) : rankL (x :: L) ((p + 1 : Nat) : Int) = TR.one x + rankL L (p : Nat) := by
  unfold rankL TR.one
  rw [Int.toNat_natCast, Int.toNat_natCast, List.take_succ_cons, List.filter_cons]
  cases x.dead <;> simp; omega
/-- Of a row with one more, alive, at a place. -/
theorem rank_ins {L : List EL} {p : Nat} (hp : p ≤ L.length) {e : EL} (he : e.dead = false) (q : Nat) :
    (q ≤ p → rankL (L.take p ++ e :: L.drop p) (q : Nat) = rankL L (q : Nat)) ∧ (p ≤ q → rankL (L.take p ++ e :: L.drop p) ((q + 1 : Nat) : Int) = rankL L (q : Nat) + 1) := by
  have hl : (L.take p).length = p := by rw [List.length_take]; omega
  have hL : L = L.take p ++ L.drop p := (List.take_append_drop p L).symm
  refine ⟨fun h => ?_, fun h => ?_⟩
  · rw [rank_lt _ _ (by omega)]
    conv => rhs; rw [hL]
    rw [rank_lt _ _ (by omega)]
  · rw [rank_app _ _ (by omega), hl, show q + 1 - p = (q - p) + 1 by omega, rank_cons, one_alive he]
    conv => rhs; rw [hL]
    rw [rank_app _ _ (by omega), hl]; omega
theorem live_ins {L : List EL} {p : Nat} {e : EL} (he : e.dead = false) : liveL (L.take p ++ e :: L.drop p) = liveL L + 1 := by
  conv => rhs; rw [← List.take_append_drop p L]
  rw [live_app, live_app, live_cons, one_alive he]; omega
/-- Of a row one of which is no more alive. -/
theorem rank_del {L : List EL} {n : Nat} {e d : EL} (hn : L[n]? = some e) (he : e.dead = false) (hd : d.dead = true) (q : Nat) :
    (q ≤ n → rankL (L.set n d) (q : Nat) = rankL L (q : Nat)) ∧ (n < q → rankL (L.set n d) (q : Nat) + 1 = rankL L (q : Nat)) := by
  obtain ⟨hlt, hg⟩ := List.getElem?_eq_some_iff.1 hn
  have hl : (L.take n).length = n := by rw [List.length_take]; omega
  have e2 : L.drop n = e :: L.drop (n + 1) := by rw [List.drop_eq_getElem_cons hlt, hg]
  have hL : L = L.take n ++ e :: L.drop (n + 1) := by rw [← e2]; exact (List.take_append_drop n L).symm
  have hS : L.set n d = L.take n ++ d :: L.drop (n + 1) := List.set_eq_take_append_cons_drop .. |>.trans (if_pos hlt)
  refine ⟨fun h => ?_, fun h => ?_⟩
  · rw [hS, rank_lt _ _ (by omega)]
    conv => rhs; rw [hL]
    rw [rank_lt _ _ (by omega)]
  · rw [hS, rank_app _ _ (by omega), hl, show q - n = (q - n - 1) + 1 by omega, rank_cons, one_dead hd]
    conv => rhs; rw [hL]
    rw [rank_app _ _ (by omega), hl, show q - n = (q - n - 1) + 1 by omega, rank_cons, one_alive he]
    simp only [Nat.add_sub_cancel]; omega
theorem live_del {L : List EL} {n : Nat} {e d : EL} (hn : L[n]? = some e) (he : e.dead = false) (hd : d.dead = true) : liveL (L.set n d) + 1 = liveL L := by
  obtain ⟨hlt, hg⟩ := List.getElem?_eq_some_iff.1 hn
  have e2 : L.drop n = e :: L.drop (n + 1) := by rw [List.drop_eq_getElem_cons hlt, hg]
  have hL : L = L.take n ++ e :: L.drop (n + 1) := by rw [← e2]; exact (List.take_append_drop n L).symm
  have hS : L.set n d = L.take n ++ d :: L.drop (n + 1) := List.set_eq_take_append_cons_drop .. |>.trans (if_pos hlt)
  rw [hS]
  conv => rhs; rw [hL]
  rw [live_app, live_app, live_cons, live_cons, one_alive he, one_dead hd]; omega
end Go.Proofs.E
end
section
open Go Go.Gv
attribute [local irreducible] Go.Gv.WJ Go.Gv.OpJ Go.Gv.QJ Go.Gv.Spl Go.Gv.Req Go.Gv.IdxP Go.Gv.RegP Go.Gv.FinP Go.Gv.CellP Go.Gv.CellsP Go.Gv.ArrP Go.Gv.ArrsP Go.Gv.DropP Go.Gv.ByteP Go.Gv.StoreP
set_option maxRecDepth 100000
namespace Go.Proofs.E
theorem mem_row_id {l : List OP} (h : Dn l) {q : Nat} {e : EL} (he : (rowE l)[q]? = some e) : ∃ o, o ∈ insL l ∧ o.i = e.id ∧ e = elO l o := by
  obtain ⟨o, ho, h1⟩ := (row_mem h).1 (List.mem_of_getElem? he)
  exact ⟨o, ho, by rw [h1]; rfl, h1⟩
theorem pos1_0 {o : OP} {L : List OP} (h : ∀ x, x ∈ L → lessI o.i x.i = false) : pos1 o L = 0 := by
  cases L with
  | nil => rfl
  | cons x r => rw [pos1, if_neg (by rw [h x (by simp)]; decide)]
theorem posAt_q {o : OP} : ∀ {L : List OP} {q : Nat} {y : OP}, L[q]? = some y → y.i = o.a → (∀ j x, j < q → L[j]? = some x → x.i ≠ o.a) → (∀ x, x ∈ L → lessI o.i x.i = false) → posAt o L = q + 1
  | [], q, y, h, _, _, _ => by simp at h
  | x :: r, 0, y, h, hy, _, hl => by
    cases h
    rw [posAt, if_pos hy, pos1_0 fun z hz => hl z (by simp [hz])]
  | x :: r, q + 1, y, h, hy, hn, hl => by
    rw [posAt, if_neg (hn 0 x (by omega) rfl), posAt_q (q := q) (by simpa using h) hy (fun j z hj hz => hn (j + 1) z (by omega) (by simpa using hz)) fun z hz => hl z (by simp [hz])]
theorem cnt_gt {l R : List OP} : (∀ x, x ∈ insL l → x.i.c < cntV l R) ∧ (∀ x, x ∈ R → x.i.c < cntV l R) ∧ 1 ≤ cntV l R := by
  have h0 := top_nn (insL l)
  have h1 := top_nn R
  unfold cntV
  refine ⟨fun x hx => ?_, fun x hx => ?_, ?_⟩
  · have := top_ge hx; split <;> omega
  · have := top_ge hx; split <;> omega
  · split <;> omega
/-- An insert that is done. -/
structure InsT (v : VS) (at_ : Int) (o : OP) (p : Nat) : Prop where
  w : wrongO v.l o = 0
  k : o.k = 0
  le : p ≤ (rowE v.l).length
  row : rowE (v.l ++ [o]) = (rowE v.l).take p ++ ⟨o.i, o.ch, false⟩ :: (rowE v.l).drop p
  rk : (rankL (rowE v.l) (p : Nat) : Int) = at_
theorem ins_ok {v : VS} (hv : okV v) (hs : sat v) {site at_ ch : Int} (g1 : 1 ≤ site ∧ site ≤ 1000) (g2 : 0 ≤ at_ ∧ at_ ≤ liveL (rowE v.l)) (g3 : 32 ≤ ch ∧ ch ≤ 1114111 ∧ ¬ (55296 ≤ ch ∧ ch ≤ 57343)) (g4 : (rowE v.l).length < 4096 ∧ cntV v.l v.R ≤ 1048576) :
    (∃ p, InsT v at_ (opI v site at_ ch) p) ∧ insVT v site at_ ch = (⟨appS v.s v.l (opI v site at_ ch), v.l ++ [opI v site at_ ch], v.R, [chO v.l (opI v site at_ ch)]⟩, opI v site at_ ch, 0) := by
  obtain ⟨c1, c2, c3⟩ := cnt_gt (l := v.l) (R := v.R)
  have hd := hv.is.dn
  -- the anchor
  have hanc : (at_ = 0 ∧ nameL (rowE v.l) (at_ - 1) = ⟨0, 0⟩) ∨ (0 < at_ ∧ ∃ q e o', (rowE v.l)[q]? = some e ∧ e.dead = false ∧ o' ∈ insL v.l ∧ o'.i = e.id ∧ nameL (rowE v.l) (at_ - 1) = e.id ∧ (rankL (rowE v.l) (q : Nat) : Int) = at_ - 1) := by
    by_cases h0 : at_ = 0
    · exact .inl ⟨h0, name_none (by omega)⟩
    · right
      obtain ⟨k, hk⟩ : ∃ k : Nat, at_ - 1 = k := ⟨(at_ - 1).toNat, by omega⟩
      obtain ⟨e, e1, e2, e3⟩ := name_get (L := rowE v.l) (k := k) (by omega)
      obtain ⟨o', o1, o2, _⟩ := mem_row_id hd e1
      have hr := rank_sel (rowE v.l) k (by omega)
      exact ⟨by omega, selL k (rowE v.l), e, o', e1, e2, o1, o2, by rw [hk]; exact e3, by rw [hr, hk]⟩
  have ho : opI v site at_ ch = ⟨0, ⟨cntV v.l v.R, site⟩, nameL (rowE v.l) (at_ - 1), ch⟩ := rfl
  generalize nameL (rowE v.l) (at_ - 1) = a at hanc ho
  have hck : checkO (opI v site at_ ch) = 0 := by
    rw [ho]
    have hm : mayI (⟨cntV v.l v.R, site⟩ : ID) = true := decide_eq_true ⟨c3, g4.2, g1.1, g1.2⟩
    have hna : noneI a = true ∨ (mayI a = true ∧ a.c < cntV v.l v.R) := by
      rcases hanc with ⟨_, h⟩ | ⟨_, q, e, o', _, _, h3, h4, h5, _⟩
      · left; rw [h]; decide
      · right
        rw [h5, ← h4]
        exact ⟨checkO_may (ok_insL hd o' h3), c1 o' h3⟩
    unfold checkO
    rw [if_neg (by simp), if_neg (by simp), if_neg ?_, if_neg ?_, if_neg (by simp only; omega)]
    · simp only
      rintro ⟨h1, h2⟩
      rcases hna with h | ⟨_, h⟩
      · rw [h] at h1; cases h1
      · omega
    · simp only
      rintro (h | ⟨h1, h2⟩)
      · rw [hm] at h; cases h
      · rcases hna with h | ⟨h, _⟩
        · rw [h] at h1; cases h1
        · rw [h] at h2; cases h2
  have hnew : findO 0 (⟨cntV v.l v.R, site⟩ : ID) v.l = none := by
    cases hf : findO 0 (⟨cntV v.l v.R, site⟩ : ID) v.l with
    | none => rfl
    | some y =>
      obtain ⟨y1, y2, y3⟩ := findO_some hf
      have := c1 y (mem_insL.2 ⟨y1, y2⟩)
      rw [y3] at this; simp at this
  have hanf : ¬ (a ≠ ⟨0, 0⟩ ∧ (findO 0 a v.l).isSome = false) := by
    rintro ⟨h1, h2⟩
    rcases hanc with ⟨_, h⟩ | ⟨_, q, e, o', _, _, h3, h4, h5, _⟩
    · exact h1 h
    · rw [h5, ← h4, find_unique hd h3] at h2; cases h2
  have hw : wrongO v.l (opI v site at_ ch) = 0 := by
    unfold wrongO
    rw [if_neg (fun h => h hck), ho]
    simp only
    rw [if_neg (by decide), hnew, if_neg (by simp), if_neg (by simp), if_neg hanf, if_neg (by rw [← row_len hd]; omega)]
  have hless : ∀ x, x ∈ folR (insL v.l) → lessI (opI v site at_ ch).i x.i = false := fun x hx => by
    have := c1 x ((hd.is.tk.is.mem x).1 hx)
    rw [ho]
    refine decide_eq_false ?_
    simp only; omega
  have hk0 : (opI v site at_ ch).k = 0 := rfl
  refine ⟨⟨posO v.l (opI v site at_ ch), hw, hk0, posO_le hd hw hk0, row_ins hd hw hk0, ?_⟩, ?_⟩
  · -- where
    unfold posO posR
    rcases hanc with ⟨h0, h1⟩ | ⟨h0, q, e, o', e1, e2, o1, o2, e3, e4⟩
    · rw [if_pos (by rw [ho]; exact h1), pos1_0 hless, h0]; rfl
    · have hae : (opI v site at_ ch).a = e.id := by rw [ho]; exact e3
      have hm := checkO_may (ok_insL hd o' o1)
      rw [if_neg (fun h => by rw [hae, ← o2] at h; rw [h] at hm; exact absurd hm (by decide))]
      have hrow : rowE v.l = (folR (insL v.l)).map (elO v.l) := rfl
      have hq : ∃ y, (folR (insL v.l))[q]? = some y ∧ elO v.l y = e := by
        rw [hrow, List.getElem?_map, Option.map_eq_some_iff] at e1
        exact e1
      obtain ⟨y, y1, y2⟩ := hq
      have hyi : y.i = e.id := by rw [← y2]; rfl
      rw [posAt_q y1 (by rw [hyi, hae]) (fun j x hj hx he => ?_) hless]
      · have := rank_snoc e1
        rw [this, one_alive e2]
        omega
      · have hxr : (rowE v.l)[j]? = some (elO v.l x) := by rw [hrow, List.getElem?_map, hx]; rfl
        have := pw_get (row_nd hd) hxr e1 (by show x.i = e.id; rw [he, hae])
        omega
  · -- what comes of it
    have n : insVT v site at_ ch = doT v (opI v site at_ ch) := by
      unfold insVT
      rw [if_neg (by omega), if_neg (by omega), if_neg (by omega)]
    rw [n]
    have hE : remE v (opI v site at_ ch) = 0 := by unfold remE; rw [hw]; rfl
    unfold doT
    rw [if_neg (fun h => h hE)]
    have hR : remV v (opI v site at_ ch) = ⟨appS v.s v.l (opI v site at_ ch), v.l ++ [opI v site at_ ch], v.R, [chO v.l (opI v site at_ ch)]⟩ := by
      unfold remV
      rw [if_pos hw]
      have hT : VS.take ⟨v.s, v.l, v.R, []⟩ (opI v site at_ ch) = ⟨appS v.s v.l (opI v site at_ ch), v.l ++ [opI v site at_ ch], v.R, [chO v.l (opI v site at_ ch)]⟩ := by
        unfold VS.take
        simp only
        rw [show appL v.l (opI v site at_ ch) = v.l ++ [opI v site at_ ch] from if_pos hw, show outV [] v.l (opI v site at_ ch) = [chO v.l (opI v site at_ ch)] from if_pos hw]
      rw [hT]
      refine drn_id _ fun x hx => ?_
      simp only at hx ⊢
      have hxc := c2 x hx
      have hxk := hv.ck x hx
      refine six_of (find_snoc (.inr fun e => ?_)) (find_snoc (.inr fun e => ?_)) (hs x hx)
      · rw [ho] at e; rw [← e] at hxc; simp at hxc
      · rw [ho] at e
        simp only at e
        rcases (checkO_0 hxk).2 with ⟨_, h2, _⟩ | ⟨h1, _⟩
        · rw [none_eq h2] at e
          have : (cntV v.l v.R) = 0 := congrArg ID.c e
          omega
        · rcases checkO_ord hxk h1 with h2 | ⟨_, h2⟩
          · rw [h2] at e
            have : (cntV v.l v.R) = 0 := congrArg ID.c e
            omega
          · rw [← e] at h2; simp only at h2; omega
    rw [hR]
/-- A delete that is done. -/
structure DelT (v : VS) (at_ : Int) (o : OP) (n : Nat) (e : EL) : Prop where
  w : wrongO v.l o = 0
  op : o = ⟨1, e.id, ⟨0, 0⟩, 0⟩
  get : (rowE v.l)[n]? = some e
  alive : e.dead = false
  row : rowE (v.l ++ [o]) = (rowE v.l).set n ⟨e.id, e.ch, true⟩
  rk : (rankL (rowE v.l) (n : Nat) : Int) = at_
theorem del_ok {v : VS} (hv : okV v) (hs : sat v) {at_ : Int} (g : 0 ≤ at_ ∧ at_ < liveL (rowE v.l)) :
    (∃ n e, DelT v at_ (opX v at_) n e) ∧ delVT v at_ = (⟨appS v.s v.l (opX v at_), v.l ++ [opX v at_], v.R, [chO v.l (opX v at_)]⟩, opX v at_, 0) := by
  have hd := hv.is.dn
  obtain ⟨k, hk⟩ : ∃ k : Nat, at_ = k := ⟨at_.toNat, by omega⟩
  obtain ⟨e, e1, e2, e3⟩ := name_get (L := rowE v.l) (k := k) (by omega)
  obtain ⟨o', o1, o2, o3⟩ := mem_row_id hd e1
  have hr := rank_sel (rowE v.l) k (by omega)
  generalize selL k (rowE v.l) = n at e1 hr
  have ho : opX v at_ = ⟨1, e.id, ⟨0, 0⟩, 0⟩ := by unfold opX; rw [hk, e3]
  have hm := checkO_may (ok_insL hd o' o1)
  have hck : checkO (⟨1, e.id, ⟨0, 0⟩, 0⟩ : OP) = 0 := by
    rw [← o2]
    unfold checkO
    have h2 : noneI (⟨0, 0⟩ : ID) = true := by decide
    rw [if_neg (by simp), if_neg (by simp [h2]), if_neg (by simp [h2, hm]), if_neg (by simp [h2]), if_neg (by simp)]
  have hdead : deadO v.l e.id = false := by rw [← o2]; rw [o3] at e2; exact e2
  have hw : wrongO v.l (opX v at_) = 0 := by
    rw [ho]
    unfold wrongO
    rw [if_neg (fun h => h hck)]
    simp only
    rw [if_pos trivial, if_pos (by rw [← o2, find_unique hd o1]; rfl), hdead]; rfl
  have hk1 : (opX v at_).k = 1 := rfl
  refine ⟨⟨n, e, hw, ho, e1, e2, ?_, by rw [hr, hk]⟩, ?_⟩
  · obtain ⟨n', ch, p1, p2, _, p3, _⟩ := row_del hd hw hk1
    have hid : (opX v at_).i = e.id := by rw [ho]
    rw [hid] at p1 p2 p3
    have hpn := place_uniq (row_nd hd) e1
    rw [hpn] at p1
    have : n' = n := by omega
    subst this
    rw [e1] at p2
    have p2 := Option.some.inj p2
    have hch : e.ch = ch := by rw [p2]
    rw [hch]; exact p3
  · have hE : remE v (opX v at_) = 0 := by unfold remE; rw [hw]; rfl
    unfold delVT
    rw [if_pos g]
    unfold doT
    rw [if_neg (fun h => h hE)]
    have hR : remV v (opX v at_) = ⟨appS v.s v.l (opX v at_), v.l ++ [opX v at_], v.R, [chO v.l (opX v at_)]⟩ := by
      unfold remV
      rw [if_pos hw]
      have hT : VS.take ⟨v.s, v.l, v.R, []⟩ (opX v at_) = ⟨appS v.s v.l (opX v at_), v.l ++ [opX v at_], v.R, [chO v.l (opX v at_)]⟩ := by
        unfold VS.take
        simp only
        rw [show appL v.l (opX v at_) = v.l ++ [opX v at_] from if_pos hw, show outV [] v.l (opX v at_) = [chO v.l (opX v at_)] from if_pos hw]
      rw [hT]
      refine drn_id _ fun x hx => ?_
      simp only at hx ⊢
      exact six_of (find_snoc (.inl (by rw [hk1]; decide))) (find_snoc (.inl (by rw [hk1]; decide))) (hs x hx)
    rw [hR]
/-- Where a cursor of one in the row is. -/
theorem resC_at {l : List OP} (h : Dn l) {q : Nat} {e : EL} (hq : (rowE l)[q]? = some e) : resC (rowE l) e.id = (((rankL (rowE l) (q : Nat) : Nat) : Int), 0) ∧ aliveC (rowE l) e.id = !e.dead := by
  obtain ⟨o, o1, o2, _⟩ := mem_row_id h hq
  have hm := checkO_may (ok_insL h o o1)
  rw [o2] at hm
  have hn : noneI e.id = false := by
    cases hn : noneI e.id with
    | false => rfl
    | true => rw [none_eq hn] at hm; exact absurd hm (by decide)
  have hp := place_uniq (row_nd h) hq
  unfold resC aliveC
  rw [hn, hp]
  refine ⟨?_, ?_⟩
  · rw [if_neg (by decide), if_pos (by omega)]
  · rw [Int.toNat_natCast, hq, decide_eq_true (by omega)]; rfl
end Go.Proofs.E
end
section
open Go Go.Gv
attribute [local irreducible] Go.Gv.WJ Go.Gv.OpJ Go.Gv.QJ Go.Gv.Spl Go.Gv.Req Go.Gv.IdxP Go.Gv.RegP Go.Gv.FinP Go.Gv.CellP Go.Gv.CellsP Go.Gv.ArrP Go.Gv.ArrsP Go.Gv.DropP Go.Gv.ByteP Go.Gv.StoreP
set_option maxRecDepth 100000
namespace Go.Proofs.E
theorem noneI0 : noneI (⟨0, 0⟩ : ID) = true := by decide
theorem resC_none (L : List EL) : resC L ⟨0, 0⟩ = (((liveL L : Nat) : Int), 0) ∧ aliveC L ⟨0, 0⟩ = true := by
  unfold resC aliveC
  rw [noneI0]; exact ⟨rfl, rfl⟩
theorem rank_live (L : List EL) (p : Nat) : rankL L (p : Nat) ≤ liveL L := by
  by_cases h : p ≤ L.length
  · have := rank_mono L h
    rw [rank_all] at this; exact this
  · unfold rankL
    rw [Int.toNat_natCast, List.take_of_length_le (by omega)]; exact Nat.le_refl _
/-- The anchor of a place in the row. -/
theorem cur_is {l : List OP} (h : Dn l) {at_ : Int} (g : 0 ≤ at_ ∧ at_ ≤ liveL (rowE l)) : (curAt (rowE l) at_).2 = 0 ∧
    ((at_ = liveL (rowE l) ∧ (curAt (rowE l) at_).1 = ⟨0, 0⟩) ∨ ∃ q e, (rowE l)[q]? = some e ∧ e.dead = false ∧ (rankL (rowE l) (q : Nat) : Int) = at_ ∧ (curAt (rowE l) at_).1 = e.id) := by
  by_cases h0 : at_ = liveL (rowE l)
  · have e : curAt (rowE l) at_ = (⟨0, 0⟩, 0) := if_pos h0
    rw [e]; exact ⟨rfl, .inl ⟨h0, rfl⟩⟩
  · have hk : 0 ≤ at_ ∧ at_ < liveL (rowE l) := by omega
    have e : curAt (rowE l) at_ = (nameL (rowE l) at_, 0) := (if_neg h0).trans (if_pos hk)
    obtain ⟨k, rfl⟩ : ∃ k : Nat, at_ = k := ⟨at_.toNat, by omega⟩
    obtain ⟨x, e1, e2, e3⟩ := name_get (L := rowE l) (k := k) (by omega)
    rw [e]
    exact ⟨rfl, .inr ⟨_, x, e1, e2, by rw [rank_sel _ _ (by omega)], e3⟩⟩
theorem cur_now {l : List OP} (h : Dn l) {at_ : Int} (g : 0 ≤ at_ ∧ at_ ≤ liveL (rowE l)) : resC (rowE l) (curAt (rowE l) at_).1 = (at_, 0) ∧ aliveC (rowE l) (curAt (rowE l) at_).1 = true := by
  obtain ⟨_, ⟨h1, h2⟩ | ⟨q, e, e1, e2, e3, e4⟩⟩ := cur_is h g
  · rw [h2, (resC_none _).1, (resC_none _).2, h1]; exact ⟨rfl, rfl⟩
  · obtain ⟨r1, r2⟩ := resC_at h e1
    rw [e4, r1, r2, e3, e2]; exact ⟨rfl, rfl⟩
theorem cur_ins {v : VS} (hv : okV v) {at_ other : Int} {o : OP} {p : Nat} (hi : InsT v other o p) (g : 0 ≤ at_ ∧ at_ ≤ liveL (rowE v.l)) :
    resC (rowE (v.l ++ [o])) (curAt (rowE v.l) at_).1 = (at_ + (if other ≤ at_ then 1 else 0), 0) := by
  have hd := hv.is.dn
  have hd' : Dn (v.l ++ [o]) := .snoc hd hi.w
  have hrk := hi.rk
  have hle := hi.le
  obtain ⟨_, ⟨h1, h2⟩ | ⟨q, e, e1, e2, e3, e4⟩⟩ := cur_is hd g
  · rw [h2, (resC_none _).1, hi.row, live_ins rfl]
    have := rank_live (rowE v.l) p
    rw [if_pos (by omega), h1]; simp
  · have hql := (List.getElem?_eq_some_iff.1 e1).1
    rw [e4]
    by_cases hpq : p ≤ q
    · have hg : (rowE (v.l ++ [o]))[q + 1]? = some e := by
        rw [hi.row, List.getElem?_append_right (by rw [List.length_take]; omega), List.length_take, Nat.min_eq_left hle, show q + 1 - p = (q - p) + 1 by omega, List.getElem?_cons_succ, List.getElem?_drop, show p + (q - p) = q by omega]; exact e1
      have hr := (rank_ins hle (e := ⟨o.i, o.ch, false⟩) rfl q).2 hpq
      rw [← hi.row] at hr
      have hm := rank_mono (rowE v.l) hpq
      rw [(resC_at hd' hg).1, hr, if_pos (by omega)]
      simp only [Prod.mk.injEq, and_true]; omega
    · have hg : (rowE (v.l ++ [o]))[q]? = some e := by
        rw [hi.row, List.getElem?_append_left (by rw [List.length_take]; omega), List.getElem?_take, if_pos (by omega)]; exact e1
      have hr := (rank_ins hle (e := ⟨o.i, o.ch, false⟩) rfl q).1 (by omega)
      rw [← hi.row] at hr
      have hm := rank_mono (rowE v.l) (show q + 1 ≤ p by omega)
      rw [rank_snoc e1, one_alive e2] at hm
      rw [(resC_at hd' hg).1, hr, if_neg (by omega)]
      simp only [Prod.mk.injEq, and_true]; omega
theorem cur_del {v : VS} (hv : okV v) {at_ other : Int} {o : OP} {n : Nat} {e0 : EL} (hi : DelT v other o n e0) (g : 0 ≤ at_ ∧ at_ ≤ liveL (rowE v.l)) :
    resC (rowE (v.l ++ [o])) (curAt (rowE v.l) at_).1 = (at_ - (if other < at_ then 1 else 0), 0) ∧ aliveC (rowE (v.l ++ [o])) (curAt (rowE v.l) at_).1 = decide (other ≠ at_) := by
  have hd := hv.is.dn
  have hd' : Dn (v.l ++ [o]) := .snoc hd hi.w
  have hrk := hi.rk
  have hget := hi.get
  have hnl := (List.getElem?_eq_some_iff.1 hget).1
  have hlive : rankL (rowE v.l) (n : Nat) + 1 ≤ liveL (rowE v.l) := by
    have := rank_live (rowE v.l) (n + 1)
    rw [rank_snoc hget, one_alive hi.alive] at this; exact this
  obtain ⟨_, ⟨h1, h2⟩ | ⟨q, e, e1, e2, e3, e4⟩⟩ := cur_is hd g
  · have := live_del hget hi.alive (d := ⟨e0.id, e0.ch, true⟩) rfl
    rw [h2, (resC_none _).1, (resC_none _).2, hi.row]
    rw [if_pos (by omega), decide_eq_true (by omega)]
    refine ⟨?_, rfl⟩
    simp only [Prod.mk.injEq, and_true]; omega
  · have hql := (List.getElem?_eq_some_iff.1 e1).1
    rw [e4]
    by_cases hqn : q = n
    · subst hqn
      rw [hget] at e1
      cases e1
      have hg : (rowE (v.l ++ [o]))[q]? = some ⟨e0.id, e0.ch, true⟩ := by rw [hi.row, List.getElem?_set_self hql]
      have hr := (rank_del hget hi.alive (d := ⟨e0.id, e0.ch, true⟩) rfl q).1 (Nat.le_refl _)
      rw [← hi.row] at hr
      obtain ⟨r1, r2⟩ := resC_at hd' hg
      simp only at r1 r2
      rw [r1, r2, hr, if_neg (by omega), decide_eq_false (by omega)]
      refine ⟨?_, rfl⟩
      simp only [Prod.mk.injEq, and_true]; omega
    · have hg : (rowE (v.l ++ [o]))[q]? = some e := by rw [hi.row, List.getElem?_set_ne (by omega)]; exact e1
      obtain ⟨r1, r2⟩ := resC_at hd' hg
      rw [r1, r2, e2]
      by_cases hlt : n < q
      · have hr := (rank_del hget hi.alive (d := ⟨e0.id, e0.ch, true⟩) rfl q).2 hlt
        rw [← hi.row] at hr
        have hm := rank_mono (rowE v.l) (show n + 1 ≤ q by omega)
        rw [rank_snoc hget, one_alive hi.alive] at hm
        rw [if_pos (by omega), decide_eq_true (by omega)]
        refine ⟨?_, rfl⟩
        simp only [Prod.mk.injEq, and_true]; omega
      · have hr := (rank_del hget hi.alive (d := ⟨e0.id, e0.ch, true⟩) rfl q).1 (by omega)
        rw [← hi.row] at hr
        have hm := rank_mono (rowE v.l) (show q + 1 ≤ n by omega)
        rw [rank_snoc e1, one_alive e2] at hm
        rw [hr, if_neg (by omega), decide_eq_true (by omega)]
        refine ⟨?_, rfl⟩
        simp only [Prod.mk.injEq, and_true]; omega
/-- What an insert comes to. -/
theorem ins_or (v : VS) (hv : okV v) (hs : sat v) (site at_ ch : Int) (g1 : 1 ≤ site ∧ site ≤ 1000) (g3 : 32 ≤ ch ∧ ch ≤ 1114111 ∧ ¬ (55296 ≤ ch ∧ ch ≤ 57343)) :
    (∃ o p, InsT v at_ o p ∧ insVT v site at_ ch = (⟨appS v.s v.l o, v.l ++ [o], v.R, [chO v.l o]⟩, o, 0) ∧ o = opI v site at_ ch ∧ 0 ≤ at_ ∧ at_ ≤ liveL (rowE v.l)) ∨ (∃ e, e ≠ 0 ∧ insVT v site at_ ch = (v.same, OP0, e)) := by
  by_cases g2 : 0 ≤ at_ ∧ at_ ≤ liveL (rowE v.l)
  · by_cases g4 : (rowE v.l).length < 4096 ∧ cntV v.l v.R ≤ 1048576
    · obtain ⟨⟨p, h1⟩, h2⟩ := ins_ok hv hs g1 g2 g3 g4
      exact .inl ⟨_, p, h1, h2, rfl, g2⟩
    · right
      refine ⟨7, by decide, ?_⟩
      unfold insVT
      rw [if_neg (by omega), if_neg (by omega), if_pos (by omega)]
  · exact .inr ⟨2, by decide, ins_no1 (by omega)⟩
theorem del_or (v : VS) (hv : okV v) (hs : sat v) (at_ : Int) :
    (∃ o n e, DelT v at_ o n e ∧ delVT v at_ = (⟨appS v.s v.l o, v.l ++ [o], v.R, [chO v.l o]⟩, o, 0)) ∨ (delVT v at_ = (v.same, OP0, 2)) := by
  by_cases g : 0 ≤ at_ ∧ at_ < liveL (rowE v.l)
  · obtain ⟨⟨n, e, h1⟩, h2⟩ := del_ok hv hs g
    exact .inl ⟨_, n, e, h1, h2⟩
  · exact .inr (if_neg g)
end Go.Proofs.E
end
section
namespace Go.Gv
open Go.RowKit
def TStep (X : Cx) (all : Array Oper) (o : Oper) (t : T) (σ : Sg) (V : AV) (E : Option (Nat × Ent)) (F : Option (Nat × Ent × Ent)) : Prop :=
  (E = none ∧ F = none ∧ OStep X all o t σ V) ∨ (∃ id e, E = some (id, e) ∧ F = none ∧ o.guard = none ∧ BirthJ X o t σ id V e) ∨ (∃ id e f, E = none ∧ F = some (id, e, f) ∧ StoreJ X o t id e f)
abbrev Bs := List (Nat × Nat × Ent)
def bsS (bs : Bs) : Sg := bs.map fun p => p.2
/-- The region's operations, in their order; k: the number of the next. -/
def CT (X : Cx) (all : Array Oper) (σ0 σ : Sg) (Q : T → Sg → Prop) : List Oper → Nat → T → Bs → Sg → Prop
  | [], _, t, bs, ss => ∃ t', Wk t' t ∧ Q t' (ss ++ bsS bs)
  | o :: rest, k, t, bs, ss =>
    (∃ V, OStep X all o t σ V ∧ dOk o.dst X.N = true ∧ (∀ p, p ∈ bs → has2 p.2.1 V = false) ∧ CT X all σ0 σ Q rest (k + 1) (putT o.dst V t) bs ss) ∨
    (∃ id V e, o.dst = some id ∧ o.guard = none ∧ BirthJ X o t σ id V e ∧ dOk (some id) X.N = true ∧ isFresh id t (ss ++ (bsS bs ++ σ0)) X.pin = true ∧
      (∀ p, p ∈ bs → entHas p.2.1 e = false ∧ has2 p.2.1 V = false) ∧ CT X all σ0 σ Q rest (k + 1) ((id, V) :: t) ((k, id, e) :: bs) ss) ∨
    (∃ x e f, StoreJ X o t x e f ∧ look x σ = none ∧ look x ss = none ∧ ((look x σ0 = some e ∧ ∀ p, p ∈ bs → p.2.1 ≠ x) ∨ (∃ b, (b, x, e) ∈ bs ∧ edge o b = true)) ∧
      (∀ p, p ∈ bs → edge o p.1 = true ∨ (x ≠ p.2.1 ∧ entHas p.2.1 f = false)) ∧ CT X all σ0 σ Q rest (k + 1) t bs ((x, f) :: ss))
structure TTab (X : Cx) (all : Array Oper) (σ0 σ : Sg) (Q : T → Sg → Prop) (n k : Nat) (t : T) (bs : Bs) (ss : Sg) (V : Nat → AV) (E : Nat → Option (Nat × Ent)) (F : Nat → Option (Nat × Ent × Ent)) : Prop where
  step : ∀ j o, j < n → all[k + j]? = some o → TStep X all o (statesFrom all V t k j) σ (V (k + j)) (E (k + j)) (F (k + j)) ∧ dOk o.dst X.N = true
  fin : ∃ t', Wk t' (statesFrom all V t k n) ∧ Q t' (sFrom F k ss n ++ bornFrom E k (bsS bs) n)
  fresh : ∀ j id e, j < n → E (k + j) = some (id, e) → isFresh id t (ss ++ (bsS bs ++ σ0)) X.pin = true
  ev : ∀ j j' x id e, j < n → j' < n → j' ≠ j → E (k + j) = some (id, e) → dstAt all (k + j') = some x → has2 id (V (k + j')) = false
  ee : ∀ j j' id e id' e', j < n → j' < n → j' ≠ j → E (k + j) = some (id, e) → E (k + j') = some (id', e') → id' ≠ id ∧ entHas id e' = false
  ef : ∀ j j' id e x e' f, j < n → j' < n → E (k + j) = some (id, e) → F (k + j') = some (x, e', f) → (∀ o, all[k + j']? = some o → edge o (k + j) = true) ∨ (x ≠ id ∧ entHas id f = false)
  old : ∀ j x e f, j < n → F (k + j) = some (x, e, f) → look x σ = none ∧ look x ss = none ∧
    ((look x σ0 = some e ∧ (∀ p, p ∈ bs → p.2.1 ≠ x) ∧ ∀ j' id e', j' < n → E (k + j') = some (id, e') → id ≠ x) ∨ (∃ b, (b, x, e) ∈ bs ∧ ∀ o, all[k + j]? = some o → edge o b = true) ∨ (∃ j', j' < n ∧ E (k + j') = some (x, e) ∧ ∀ o, all[k + j]? = some o → edge o (k + j') = true))
  ff : ∀ i j x e f e' f', i < n → j < n → F (k + i) = some (x, e, f) → F (k + j) = some (x, e', f') → i = j
  bv : ∀ p, p ∈ bs → ∀ j, j < n → (∀ x, dstAt all (k + j) = some x → has2 p.2.1 (V (k + j)) = false) ∧ (∀ id e, E (k + j) = some (id, e) → id ≠ p.2.1 ∧ entHas p.2.1 e = false) ∧
    ∀ x e f, F (k + j) = some (x, e, f) → (∀ o, all[k + j]? = some o → edge o p.1 = true) ∨ (x ≠ p.2.1 ∧ entHas p.2.1 f = false)
def consE (k : Nat) : Option (Nat × Ent) → Bs → Bs
  | some q, bs => (k, q) :: bs
  | none, bs => bs
theorem bsS_cons (k : Nat) (E0 : Option (Nat × Ent)) (bs : Bs) : bsS (consE k E0 bs) = consO E0 (bsS bs) := by cases E0 <;> rfl
theorem fresh_app {id : Nat} {t : T} {a b : Sg} {pin : List Nat} (h : isFresh id t (a ++ b) pin = true) : isFresh id t a pin = true ∧ isFresh id t b pin = true := by
  simp only [isFresh, Bool.and_eq_true, List.all_append] at h ⊢
  exact ⟨⟨⟨h.1.1, h.1.2.1⟩, h.2⟩, ⟨⟨h.1.1, h.1.2.2⟩, h.2⟩⟩
theorem fresh_mem {id : Nat} {t : T} {σ : Sg} {pin : List Nat} (h : isFresh id t σ pin = true) {p : Nat × Ent} (hp : p ∈ σ) : p.1 ≠ id ∧ entHas id p.2 = false := by
  simp only [isFresh, Bool.and_eq_true, List.all_eq_true] at h
  have := h.1.2 p hp
  simp only [Bool.and_eq_true, Bool.not_eq_true'] at this
  exact ⟨fun e => by rw [e] at this; simp at this, this.2⟩
theorem fresh_less {id : Nat} {t : T} {σ σ' : Sg} {pin : List Nat} (h : isFresh id t σ pin = true) (hs : ∀ p, p ∈ σ' → p ∈ σ) : isFresh id t σ' pin = true := by
  simp only [isFresh, Bool.and_eq_true, List.all_eq_true] at h ⊢
  exact ⟨⟨h.1.1, fun p hp => h.1.2 p (hs p hp)⟩, h.2⟩
theorem CT.table {X : Cx} {all : Array Oper} {σ0 σ : Sg} {Q : T → Sg → Prop} : ∀ (rest : List Oper) (k : Nat) (t : T) (bs : Bs) (ss : Sg), (∀ j, j < rest.length → all[k + j]? = rest[j]?) → CT X all σ0 σ Q rest k t bs ss → ∃ V E F, TTab X all σ0 σ Q rest.length k t bs ss V E F
  | [], k, t, bs, ss, _, h => ⟨fun _ => .junk, fun _ => none, fun _ => none, ⟨fun j o hj => by simp at hj, h, fun j id e hj => by simp at hj, fun j j' x id e hj => by simp at hj, fun j j' id e id' e' hj => by simp at hj, fun j j' id e x e' f hj => by simp at hj, fun j x e f hj => by simp at hj, fun i j x e f e' f' hi => by simp at hi, fun p _ j hj => by simp at hj⟩⟩
  | p :: rest, k, t, bs, ss, ha, h => by
    have hk : all[k]? = some p := by simpa using ha 0 (by simp)
    have hdk : dstAt all k = p.dst := by simp [dstAt, hk]
    have ha' : ∀ j, j < rest.length → all[k + 1 + j]? = rest[j]? := fun j hj => by have := ha (j + 1) (by simp; omega); rw [show k + 1 + j = k + (j + 1) from by omega]; simpa using this
    have hne : ∀ j, k + (j + 1) ≠ k := fun j => by omega
    have hadd : ∀ j, k + (j + 1) = k + 1 + j := fun j => by omega
    have key : ∀ (V0 : AV) (E0 : Option (Nat × Ent)) (F0 : Option (Nat × Ent × Ent)), TStep X all p t σ V0 E0 F0 → dOk p.dst X.N = true → CT X all σ0 σ Q rest (k + 1) (putT p.dst V0 t) (consE k E0 bs) (consF F0 ss) →
        (∀ id e, E0 = some (id, e) → isFresh id t (ss ++ (bsS bs ++ σ0)) X.pin = true) →
        (∀ x e f, F0 = some (x, e, f) → E0 = none ∧ look x σ = none ∧ look x ss = none ∧ ((look x σ0 = some e ∧ ∀ q, q ∈ bs → q.2.1 ≠ x) ∨ (∃ b, (b, x, e) ∈ bs ∧ edge p b = true))) →
        (∀ q, q ∈ bs → (∀ x, p.dst = some x → has2 q.2.1 V0 = false) ∧ (∀ id e, E0 = some (id, e) → id ≠ q.2.1 ∧ entHas q.2.1 e = false) ∧ ∀ x e f, F0 = some (x, e, f) → edge p q.1 = true ∨ (x ≠ q.2.1 ∧ entHas q.2.1 f = false)) →
        ∃ V E F, TTab X all σ0 σ Q (p :: rest).length k t bs ss V E F := by
      intro V0 E0 F0 hB hdok h4 hE0 hF0 hbs
      obtain ⟨V', E', F', tb⟩ := CT.table rest (k + 1) _ _ _ ha' h4
      obtain ⟨i1, ⟨t', i2, i3⟩, i4, i5, i6, i7, i8, i9, i10⟩ := tb
      have hV : ∀ j, statesFrom all (fun i => if i = k then V0 else V' i) t k (j + 1) = statesFrom all V' (putT p.dst V0 t) (k + 1) j := fun j => by
        rw [statesFrom_succ, hdk]
        simp only [if_true]
        exact statesFrom_congr j fun i h7 h8 => if_neg (by omega)
      have hFF : ∀ j, sFrom (fun i => if i = k then F0 else F' i) k ss (j + 1) = sFrom F' (k + 1) (consF F0 ss) j := fun j => by
        rw [sFrom_succ]
        simp only [if_true]
        exact sFrom_congr (F := fun i => if i = k then F0 else F' i) (F' := F') j fun i h7 h8 => if_neg (by omega)
      have hEE : ∀ j, bornFrom (fun i => if i = k then E0 else E' i) k (bsS bs) (j + 1) = bornFrom E' (k + 1) (bsS (consE k E0 bs)) j := fun j => by
        rw [bornFrom_succ, bsS_cons]
        simp only [if_true]
        exact bornFrom_congr (E := fun i => if i = k then E0 else E' i) (E' := E') j fun i h7 h8 => if_neg (by omega)
      -- the head's birth is a member of what is born behind it
      have memE : ∀ q, E0 = some q → (k, q) ∈ consE k E0 bs := fun q e => by rw [e]; simp [consE]
      have memB : ∀ q, q ∈ bs → q ∈ consE k E0 bs := fun q hq => by cases E0 <;> simp [consE, hq]
      have freshL : ∀ id, isFresh id (putT p.dst V0 t) (consF F0 ss ++ (bsS (consE k E0 bs) ++ σ0)) X.pin = true → isFresh id t (ss ++ (bsS bs ++ σ0)) X.pin = true ∧ (∀ x, p.dst = some x → has2 id V0 = false) ∧ (∀ id' e', E0 = some (id', e') → id' ≠ id ∧ entHas id e' = false) ∧ ∀ x e f, F0 = some (x, e, f) → x ≠ id ∧ entHas id f = false := by
        intro id hf
        obtain ⟨g1, g2⟩ := fresh_putT hf
        refine ⟨fresh_less g1 fun q hq => ?_, g2, fun id' e' h => ?_, fun x e f h => ?_⟩
        · rcases List.mem_append.1 hq with h | h
          · exact List.mem_append.2 (.inl (by cases F0 with | none => exact h | some r => exact List.mem_cons.2 (.inr h)))
          · rcases List.mem_append.1 h with h | h
            · refine List.mem_append.2 (.inr (List.mem_append.2 (.inl ?_)))
              rw [bsS_cons]; cases E0 with | none => exact h | some r => exact List.mem_cons.2 (.inr h)
            · exact List.mem_append.2 (.inr (List.mem_append.2 (.inr h)))
        · exact fresh_mem g1 (p := (id', e')) (List.mem_append.2 (.inr (List.mem_append.2 (.inl (by rw [bsS_cons, h]; simp [consO])))))
        · exact fresh_mem g1 (p := (x, f)) (List.mem_append.2 (.inl (by rw [h]; simp [consF])))
      refine ⟨fun i => if i = k then V0 else V' i, fun i => if i = k then E0 else E' i, fun i => if i = k then F0 else F' i, ?_, ⟨t', by rw [List.length_cons, hV]; exact i2, by rw [List.length_cons, hFF, hEE]; exact i3⟩, ?_, ?_, ?_, ?_, ?_, ?_, ?_⟩
      · intro j o hj ho
        cases j with
        | zero =>
          rw [Nat.add_zero, hk] at ho
          simp only [Option.some.injEq] at ho
          subst ho
          simp only [Nat.add_zero, if_true, statesFrom]
          exact ⟨hB, hdok⟩
        | succ j =>
          rw [hV]
          simp only [if_neg (hne j)]
          have := i1 j o (by simpa using hj) (by rw [← hadd j]; exact ho)
          rw [hadd j]; exact this
      · intro j id e hj hE
        cases j with
        | zero => simp only [Nat.add_zero, if_true] at hE; exact hE0 id e hE
        | succ j =>
          simp only [if_neg (hne j)] at hE; rw [hadd j] at hE
          exact (freshL id (i4 j id e (by simpa using hj) hE)).1
      · intro j j' x id e hj hj' hjj hE hx
        cases j with
        | zero =>
          simp only [Nat.add_zero, if_true] at hE
          cases j' with
          | zero => exact absurd rfl hjj
          | succ j' =>
            simp only [if_neg (hne j')] at hx ⊢; rw [hadd j'] at hx ⊢
            exact (i10 _ (memE _ hE) j' (by simpa using hj')).1 x hx
        | succ j =>
          simp only [if_neg (hne j)] at hE; rw [hadd j] at hE
          cases j' with
          | zero =>
            simp only [Nat.add_zero, if_true] at hx ⊢
            exact (freshL id (i4 j id e (by simpa using hj) hE)).2.1 x (by rw [← hdk]; exact hx)
          | succ j' =>
            simp only [if_neg (hne j')] at hx ⊢; rw [hadd j'] at hx ⊢
            exact i5 j j' x id e (by simpa using hj) (by simpa using hj') (by omega) hE hx
      · intro j j' id e id' e' hj hj' hjj hE hE'
        cases j with
        | zero =>
          simp only [Nat.add_zero, if_true] at hE
          cases j' with
          | zero => exact absurd rfl hjj
          | succ j' =>
            simp only [if_neg (hne j')] at hE'; rw [hadd j'] at hE'
            exact (i10 _ (memE _ hE) j' (by simpa using hj')).2.1 id' e' hE'
        | succ j =>
          simp only [if_neg (hne j)] at hE; rw [hadd j] at hE
          cases j' with
          | zero =>
            simp only [Nat.add_zero, if_true] at hE'
            exact (freshL id (i4 j id e (by simpa using hj) hE)).2.2.1 id' e' hE'
          | succ j' =>
            simp only [if_neg (hne j')] at hE'; rw [hadd j'] at hE'
            exact i6 j j' id e id' e' (by simpa using hj) (by simpa using hj') (by omega) hE hE'
      · intro j j' id e x e' f hj hj' hE hF
        cases j with
        | zero =>
          simp only [Nat.add_zero, if_true] at hE
          cases j' with
          | zero =>
            simp only [Nat.add_zero, if_true] at hF
            have := (hF0 x e' f hF).1
            rw [hE] at this; cases this
          | succ j' =>
            simp only [if_neg (hne j')] at hF; rw [hadd j'] at hF
            have := (i10 _ (memE _ hE) j' (by simpa using hj')).2.2 x e' f hF
            rw [hadd j']; exact this
        | succ j =>
          simp only [if_neg (hne j)] at hE; rw [hadd j] at hE
          cases j' with
          | zero =>
            simp only [Nat.add_zero, if_true] at hF
            exact .inr ((freshL id (i4 j id e (by simpa using hj) hE)).2.2.2 x e' f hF)
          | succ j' =>
            simp only [if_neg (hne j')] at hF; rw [hadd j'] at hF
            rw [hadd j, hadd j']
            exact i7 j j' id e x e' f (by simpa using hj) (by simpa using hj') hE hF
      · intro j x e f hj hF
        cases j with
        | zero =>
          simp only [Nat.add_zero, if_true] at hF
          obtain ⟨g0, g1, g2, g3⟩ := hF0 x e f hF
          refine ⟨g1, g2, ?_⟩
          rcases g3 with ⟨g4, g5⟩ | ⟨b, g4, g5⟩
          · refine .inl ⟨g4, g5, fun j' id e' hj' hE => ?_⟩
            cases j' with
            | zero => simp only [Nat.add_zero, if_true] at hE; rw [g0] at hE; cases hE
            | succ j' =>
              simp only [if_neg (hne j')] at hE; rw [hadd j'] at hE
              exact fun e => ((freshL id (i4 j' id e' (by simpa using hj') hE)).2.2.2 _ _ _ hF).1 e.symm
          · exact .inr (.inl ⟨b, g4, fun o ho => by rw [Nat.add_zero, hk] at ho; cases ho; exact g5⟩)
        | succ j =>
          simp only [if_neg (hne j)] at hF; rw [hadd j] at hF
          obtain ⟨g1, g2, g3⟩ := i8 j x e f (by simpa using hj) hF
          refine ⟨g1, ?_, ?_⟩
          · cases F0 with
            | none => exact g2
            | some q =>
              obtain ⟨y, e0, f0⟩ := q
              simp only [consF] at g2
              rw [look_cons] at g2
              split at g2
              · cases g2
              · exact g2
          · rcases g3 with ⟨g4, g5, g6⟩ | ⟨b, g4, g5⟩ | ⟨j', g4, g5, g6⟩
            · refine .inl ⟨g4, fun q hq => g5 q (memB q hq), fun j' id e' hj' hE => ?_⟩
              cases j' with
              | zero => simp only [Nat.add_zero, if_true] at hE; exact g5 _ (memE _ hE)
              | succ j' =>
                simp only [if_neg (hne j')] at hE; rw [hadd j'] at hE
                exact g6 j' id e' (by simpa using hj') hE
            · cases hE : E0 with
              | none => rw [hE] at g4; exact .inr (.inl ⟨b, g4, fun o ho => g5 o (by rw [← hadd j]; exact ho)⟩)
              | some q =>
                rw [hE] at g4
                rcases List.mem_cons.1 g4 with h | h
                · obtain ⟨y, e1⟩ := q
                  simp only [Prod.mk.injEq] at h
                  obtain ⟨rfl, rfl, rfl⟩ := h
                  exact .inr (.inr ⟨0, by simp, by simp [hE], fun o ho => g5 o (by rw [← hadd j]; exact ho)⟩)
                · exact .inr (.inl ⟨b, h, fun o ho => g5 o (by rw [← hadd j]; exact ho)⟩)
            · refine .inr (.inr ⟨j' + 1, by simp; omega, ?_, fun o ho => ?_⟩)
              · simp only [if_neg (hne j')]; rw [hadd j']; exact g5
              · rw [hadd j']; exact g6 o (by rw [← hadd j]; exact ho)
      · have cross : ∀ j x e f e' f', j < rest.length → F0 = some (x, e, f) → F' (k + 1 + j) = some (x, e', f') → False := fun j x e f e' f' hj h1 h2 => by
          obtain ⟨_, g3, _⟩ := i8 j x e' f' hj h2
          rw [h1] at g3
          simp only [consF] at g3
          rw [look_cons, if_pos rfl] at g3; cases g3
        intro i j x e f e' f' hi hj h1 h2
        cases i with
        | zero =>
          simp only [Nat.add_zero, if_true] at h1
          cases j with
          | zero => rfl
          | succ j =>
            simp only [if_neg (hne j)] at h2; rw [hadd j] at h2
            exact (cross j x e f e' f' (by simpa using hj) h1 h2).elim
        | succ i =>
          simp only [if_neg (hne i)] at h1; rw [hadd i] at h1
          cases j with
          | zero =>
            simp only [Nat.add_zero, if_true] at h2
            exact (cross i x e' f' e f (by simpa using hi) h2 h1).elim
          | succ j =>
            simp only [if_neg (hne j)] at h2; rw [hadd j] at h2
            rw [i9 i j x e f e' f' (by simpa using hi) (by simpa using hj) h1 h2]
      · intro q hq j hj
        cases j with
        | zero =>
          simp only [Nat.add_zero, if_true]
          obtain ⟨g1, g2, g3⟩ := hbs q hq
          refine ⟨fun x hx => g1 x (by rw [← hdk]; exact hx), g2, fun x e f hF => ?_⟩
          rcases g3 x e f hF with h | h
          · exact .inl fun o ho => by rw [hk] at ho; cases ho; exact h
          · exact .inr h
        | succ j =>
          simp only [if_neg (hne j)]; rw [hadd j]
          exact i10 q (memB q hq) j (by simpa using hj)
    rcases h with ⟨V0, h1, h2, h3, h4⟩ | ⟨id0, V0, e0, hd, hg, hnj, hN, hf, hb, h4⟩ | ⟨x0, e0, f0, hs, g1, g2, g3, g4, h4⟩
    · exact key V0 none none (.inl ⟨rfl, rfl, h1⟩) h2 h4 (fun id e h => by cases h) (fun x e f h => by cases h) fun q hq => ⟨fun x _ => h3 q hq, fun id e h => (by cases h), fun x e f h => (by cases h)⟩
    · refine key V0 (some (id0, e0)) none (.inr (.inl ⟨id0, e0, rfl, rfl, hg, hnj⟩)) (by rw [hd]; exact hN) (by rw [hd]; exact h4) (fun id e h => by cases h; exact hf) (fun x e f h => by cases h) fun q hq => ⟨fun x _ => (hb q hq).2, fun id e h => ?_, fun x e f h => by cases h⟩
      cases h
      have := fresh_mem (fresh_app (fresh_app hf).2).1 (p := q.2) (List.mem_map.2 ⟨q, hq, rfl⟩)
      exact ⟨fun e => this.1 e.symm, (hb q hq).1⟩
    · have hd0 := hs.2.1
      exact key .junk none (some (x0, e0, f0)) (.inr (.inr ⟨x0, e0, f0, rfl, rfl, hs⟩)) (by rw [hd0]; rfl) (by rw [hd0]; exact h4) (fun id e h => by cases h) (fun x e f h => by cases h; exact ⟨rfl, g1, g2, g3⟩) fun q hq => ⟨fun x hx => (by rw [hd0] at hx; cases hx), fun id e h => (by cases h), fun x e f h => (by cases h; exact g4 q hq)⟩
theorem CT.wk {X : Cx} {all : Array Oper} {σ0 σ : Sg} {Q : T → Sg → Prop} : ∀ (rest : List Oper) (k : Nat) (t t' : T) (bs : Bs) (ss : Sg), Wk t' t → (∀ p, p ∈ t → p ∈ t') → CT X all σ0 σ Q rest k t' bs ss → CT X all σ0 σ Q rest k t bs ss
  | [], k, t, t', bs, ss, hw, _, ⟨t'', h1, h2⟩ => ⟨t'', h1.trans hw, h2⟩
  | o :: rest, k, t, t', bs, ss, hw, hm, h => by
    rcases h with ⟨V, h1, h2, h3, h4⟩ | ⟨id, V, e, hd, hg, hn, hN, hf, hb, h4⟩ | ⟨x, e, f, hs, g1, g2, g3, g4, h4⟩
    · refine .inl ⟨V, h1.wk hw, h2, h3, CT.wk rest _ _ _ bs ss hw.put (fun p hp => ?_) h4⟩
      cases ho : o.dst with
      | none => rw [ho] at hp; exact hm p hp
      | some d =>
        rw [ho] at hp
        rcases List.mem_cons.1 hp with h | h
        · exact List.mem_cons.2 (.inl h)
        · exact List.mem_cons.2 (.inr (hm p h))
    · refine .inr (.inl ⟨id, V, e, hd, hg, hn.wk hw, hN, isFresh_wkT hf hm, hb, CT.wk rest _ _ _ _ ss (fun i a hi => ?_) (fun p hp => ?_) h4⟩)
      · rw [look_cons] at hi ⊢
        split
        · next e => rw [if_pos e] at hi; exact hi
        · next e => rw [if_neg e] at hi; exact hw i a hi
      · rcases List.mem_cons.1 hp with h | h
        · exact List.mem_cons.2 (.inl h)
        · exact List.mem_cons.2 (.inr (hm p h))
    · exact .inr (.inr ⟨x, e, f, hs.wk hw, g1, g2, g3, g4, CT.wk rest _ _ _ bs _ hw hm h4⟩)
end Go.Gv
end
section
open Go Go.Gv
attribute [local irreducible] Go.Gv.WJ Go.Gv.OpJ Go.Gv.QJ Go.Gv.Spl Go.Gv.Req Go.Gv.IdxP Go.Gv.RegP Go.Gv.FinP Go.Gv.CellP Go.Gv.CellsP Go.Gv.ArrP Go.Gv.ArrsP Go.Gv.DropP Go.Gv.ByteP Go.Gv.StoreP
set_option maxRecDepth 100000
namespace Go.Proofs.E
attribute [local irreducible] elems
theorem aw11_a : curAt (rowE pA2.1.l) 1 = (⟨2, 1⟩, 0) := by decide +kernel
theorem aw11_o : pA2.2.1.i = ⟨2, 1⟩ := by decide +kernel
theorem aw11_r : resC (rowE pA3.1.l) ⟨2, 1⟩ = (0, 0) := by decide +kernel
theorem okP2 : okV pA2.1 := (okA1.ins 1 1 98).1
theorem Awake11_c : Cv 26 [] (bv true) := by
  have h1 := InsN_c 1 0 97
  have h2 := VInsert_c okA1.is vA1.R (by have := okA1.len; omega) okA1.ck 1 1 98
  have h3 := VDelete_c okA2.is vA2.R (by have := okA2.len; omega) 0
  have ha := CAt_c okP2.is pA2.1.R 1
  have hr := CResolve_c okA3.is pA3.1.R ⟨2, 1⟩
  rw [aw11_a] at ha
  rw [aw11_r] at hr
  have e1 : insVT vA0 1 0 97 = pA1 := rfl
  have e2 : insVT ⟨vA1.s, vA1.l, vA1.R, []⟩ 1 1 98 = pA2 := rfl
  have e3 : delVT ⟨vA2.s, vA2.l, vA2.R, []⟩ 0 = pA3 := rfl
  rw [e1] at h1
  rw [e2] at h2
  rw [e3] at h3
  have d1 : vA1 = ⟨pA1.1.s, pA1.1.l, pA1.1.R, []⟩ := rfl
  have d2 : vA2 = ⟨pA2.1.s, pA2.1.l, pA2.1.R, []⟩ := rfl
  rw [d1] at h2
  rw [d2] at h3
  have ho := aw11_o
  generalize pA3 = p3 at h3 hr
  generalize pA2 = p2 at h2 h3 ha ho
  generalize pA1 = p1 at h1 h2
  obtain ⟨v3, o3, e3'⟩ := p3
  obtain ⟨v2, ⟨ok, oi, oa, och⟩, e2'⟩ := p2
  obtain ⟨v1, o1, e1'⟩ := p1
  unfold resT at h1 h2 h3
  simp only at h1 h2 h3 ha hr ho
  subst ho
  refine Ct.of_wv Tryz.f26 Tryz.func26 rfl rfl fun w H B g0 => ?_
  try refine WJ.cut ?_
  (first | refine Sq.go ?_ | refine vL_nil (Sq.go ?_) | skip)
  try refine WJ.cut ?_
  refine OpJ.callV h1 (fun _ _ => rfl) rfl rfl rfl ?_
  (repeat (first | refine Spl.t rfl ?_ | refine Spl.f rfl ?_))
  (first | refine Sq.go ?_ | refine vL_nil (Sq.go ?_) | skip)
  try refine WJ.cut ?_
  refine OpJ.callV h2 (fun _ _ => rfl) rfl rfl rfl ?_
  (repeat (first | refine Spl.t rfl ?_ | refine Spl.f rfl ?_))
  (first | refine Sq.go ?_ | refine vL_nil (Sq.go ?_) | skip)
  try refine WJ.cut ?_
  refine OpJ.callV ha (fun _ _ => rfl) rfl rfl rfl ?_
  (repeat (first | refine Spl.t rfl ?_ | refine Spl.f rfl ?_))
  (first | refine Sq.go ?_ | refine vL_nil (Sq.go ?_) | skip)
  try refine WJ.cut ?_
  refine OpJ.callV h3 (fun _ _ => rfl) rfl rfl rfl ?_
  (repeat (first | refine Spl.t rfl ?_ | refine Spl.f rfl ?_))
  (first | refine Sq.go ?_ | refine vL_nil (Sq.go ?_) | skip)
  try refine WJ.cut ?_
  refine OpJ.callV hr (fun _ _ => rfl) rfl rfl rfl ?_
  (repeat (first | refine Spl.t rfl ?_ | refine Spl.f rfl ?_))
  (first | refine Sq.go ?_ | refine vL_nil (Sq.go ?_) | skip)
  try refine vc_sound _ _ _ _ ?_
  refine OpJ.callV Awake8_c (fun _ _ => rfl) rfl rfl rfl ?_
  (repeat (first | refine Spl.t rfl ?_ | refine Spl.f rfl ?_))
  refine OpJ.qu (O.eqT 3 rfl rfl rfl rfl rfl eqI_ok eqI_g (eqI ⟨2, 1⟩ ⟨2, 1⟩)) rfl ?_
  exact FinP.open rfl (congrArg bv (by simp))
end Go.Proofs.E
end
section
open Go Go.Gv
attribute [local irreducible] Go.Gv.WJ Go.Gv.OpJ Go.Gv.QJ Go.Gv.Spl Go.Gv.Req Go.Gv.IdxP Go.Gv.RegP Go.Gv.FinP Go.Gv.CellP Go.Gv.CellsP Go.Gv.ArrP Go.Gv.ArrsP Go.Gv.DropP Go.Gv.ByteP Go.Gv.StoreP
set_option maxRecDepth 100000
namespace Go.Proofs.E
attribute [local irreducible] elems
set_option maxHeartbeats 2000000 in
theorem CursorStays_c (acts : List ACT) (hacts : ∀ x, x ∈ acts → okAct x) (at_ other : Int) (ha0 : -9223372036854775808 ≤ at_) (ha1 : at_ ≤ 9223372036854775807) :
    Cv 5 [.d (.sl 10 (acts.map actD)), iv at_, iv other] (bv true) := by
  obtain ⟨hv, hout⟩ := play_ok acts
  have hs := play_sat acts
  refine Ct.of_wv Tryz.f5 Tryz.func5 rfl rfl fun w H B g0 => ?_
  (try refine WJ.cut ?_)
  (first | refine Sq.go ?_ | refine vL_nil (Sq.go ?_) | skip)
  (try refine WJ.cut ?_)
  refine Spl.of (fun g1 => ?_) (fun g1 => ?_)
  · (repeat (first | refine Spl.t rfl ?_ | refine Spl.f rfl ?_))
    refine OpJ.callV Awake11_c (fun _ _ => rfl) rfl rfl rfl ?_
    (repeat (first | refine Spl.t rfl ?_ | refine Spl.f rfl ?_))
    refine .out (by simp) ?_
    exact FinP.open rfl rfl
  have hw : acts.length ≤ 30 := by have := of_decide_eq_false g1; simp at this; omega
  have hpl := played_c acts (by omega) hacts
  generalize playA acts = v at hv hs hout hpl
  obtain ⟨s, l, R, out⟩ := v
  simp only at hout
  subst hout
  have his := hv.is
  simp only at his hpl
  have hlr := row_le his.dn
  have hlv := live_le (rowE l)
  have ca := CAt_c his R at_
  (repeat (first | refine Spl.t rfl ?_ | refine Spl.f rfl ?_))
  (first | refine Sq.go ?_ | refine vL_nil (Sq.go ?_) | skip)
  (try refine WJ.cut ?_)
  refine OpJ.callV hpl (fun _ _ => rfl) rfl rfl rfl ?_
  (repeat (first | refine Spl.t rfl ?_ | refine Spl.f rfl ?_))
  (first | refine Sq.go ?_ | refine vL_nil (Sq.go ?_) | skip)
  (try refine WJ.cut ?_)
  (repeat (first | refine Spl.t rfl ?_ | refine Spl.f rfl ?_))
  (first | refine Sq.go ?_ | refine vL_nil (Sq.go ?_) | skip)
  (try refine WJ.cut ?_)
  refine OpJ.callV ca (fun _ _ => rfl) rfl rfl rfl ?_
  (repeat (first | refine Spl.t rfl ?_ | refine Spl.f rfl ?_))
  (first | refine Sq.go ?_ | refine vL_nil (Sq.go ?_) | skip)
  (try refine WJ.cut ?_)
  by_cases g : 0 ≤ at_ ∧ at_ ≤ liveL (rowE l)
  case neg =>
    have e : curAt (rowE l) at_ = (⟨0, 0⟩, 2) := (if_neg (by omega)).trans (if_neg (by omega))
    have hlen := VLen_c his R
    rw [e]
    refine Spl.t rfl ?_
    (repeat (first | refine Spl.t rfl ?_ | refine Spl.f rfl ?_))
    refine OpJ.callV Awake11_c (fun _ _ => rfl) rfl rfl rfl ?_
    (repeat (first | refine Spl.t rfl ?_ | refine Spl.f rfl ?_))
    refine Spl.of (fun h1 => ?_) (fun h1 => ?_)
    · (repeat (first | refine Spl.t rfl ?_ | refine Spl.f rfl ?_))
      refine .out (by simp) ?_
      exact FinP.open rfl rfl
    · have h1 := of_decide_eq_false h1
      (repeat (first | refine Spl.t rfl ?_ | refine Spl.f rfl ?_))
      refine OpJ.callV hlen (fun _ _ => rfl) rfl rfl rfl ?_
      (repeat (first | refine Spl.t rfl ?_ | refine Spl.f rfl ?_))
      refine .out (by simp) ?_
      exact FinP.open rfl (congrArg bv (decide_eq_true (by omega)))
  obtain ⟨k0, _⟩ := cur_is his.dn g
  obtain ⟨k1, k2⟩ := cur_now his.dn g
  have cr := CResolve_c his R (curAt (rowE l) at_).1
  have cl := CAlive_c his R (curAt (rowE l) at_).1
  rw [k1] at cr
  rw [k2] at cl
  have hl16 : R.length ≤ 16 := hv.len
  have vi := VInsert_c his R (by omega) hv.ck 7 other 122
  have vd := VDelete_c his R (by omega) other
  have hI : (insVT ⟨s, l, R, []⟩ 7 other 122).2.2 ≠ 0 ∨ ((insVT ⟨s, l, R, []⟩ 7 other 122).2.2 = 0 ∧ Cv 29 [idv (curAt (rowE l) at_).1, vv (insVT ⟨s, l, R, []⟩ 7 other 122).1.s (insVT ⟨s, l, R, []⟩ 7 other 122).1.l (insVT ⟨s, l, R, []⟩ 7 other 122).1.R] (.tup [iv (at_ + (if other ≤ at_ then 1 else 0)), iv 0])) := by
    rcases ins_or ⟨s, l, R, []⟩ hv hs 7 other 122 (by decide) (by decide) with ⟨o, p, h1, h2, _⟩ | ⟨e, h1, h2⟩
    · right
      have hw := (hv.ins 7 other 122).1
      rw [h2] at hw ⊢
      simp only at hw ⊢
      have := CResolve_c hw.is R (curAt (rowE l) at_).1
      simp only at this
      rw [cur_ins hv h1 g] at this
      exact ⟨trivial, this⟩
    · left; rw [h2]; exact h1
  have hD : (delVT ⟨s, l, R, []⟩ other).2.2 ≠ 0 ∨ ((delVT ⟨s, l, R, []⟩ other).2.2 = 0 ∧ Cv 29 [idv (curAt (rowE l) at_).1, vv (delVT ⟨s, l, R, []⟩ other).1.s (delVT ⟨s, l, R, []⟩ other).1.l (delVT ⟨s, l, R, []⟩ other).1.R] (.tup [iv (at_ - (if other < at_ then 1 else 0)), iv 0]) ∧
      Cv 30 [idv (curAt (rowE l) at_).1, vv (delVT ⟨s, l, R, []⟩ other).1.s (delVT ⟨s, l, R, []⟩ other).1.l (delVT ⟨s, l, R, []⟩ other).1.R] (bv (decide (other ≠ at_)))) := by
    rcases del_or ⟨s, l, R, []⟩ hv hs other with ⟨o, n, e, h1, h2⟩ | h2
    · right
      have hw := (hv.del other).1
      rw [h2] at hw ⊢
      simp only at hw ⊢
      have r1 := CResolve_c hw.is R (curAt (rowE l) at_).1
      have r2 := CAlive_c hw.is R (curAt (rowE l) at_).1
      simp only at r1 r2
      obtain ⟨q1, q2⟩ := cur_del hv h1 g
      rw [q1] at r1
      rw [q2] at r2
      exact ⟨trivial, r1, r2⟩
    · left; rw [h2]; exact (by decide : (2 : Int) ≠ 0)
  rw [k0] at ca ⊢
  generalize insVT ⟨s, l, R, []⟩ 7 other 122 = p at vi hI
  generalize delVT ⟨s, l, R, []⟩ other = q at vd hD
  obtain ⟨vp, op, ep⟩ := p
  obtain ⟨vq, oq, eq⟩ := q
  unfold resT at vi vd
  simp only at vi vd hI hD
  generalize (curAt (rowE l) at_).1 = a at *
  have hga : at_ ≤ 4096 := by omega
  refine Spl.f rfl ?_
  (repeat (first | refine Spl.t rfl ?_ | refine Spl.f rfl ?_))
  (first | refine Sq.go ?_ | refine vL_nil (Sq.go ?_) | skip)
  (try refine WJ.cut ?_)
  refine OpJ.callV cr (fun _ _ => rfl) rfl rfl rfl ?_
  (repeat (first | refine Spl.t rfl ?_ | refine Spl.f rfl ?_))
  (first | refine Sq.go ?_ | refine vL_nil (Sq.go ?_) | skip)
  (try refine WJ.cut ?_)
  refine Spl.f (by simp) ?_
  (repeat (first | refine Spl.t rfl ?_ | refine Spl.f rfl ?_))
  refine OpJ.callV cl (fun _ _ => rfl) rfl rfl rfl ?_
  (repeat (first | refine Spl.t rfl ?_ | refine Spl.f rfl ?_))
  (first | refine Sq.go ?_ | refine vL_nil (Sq.go ?_) | skip)
  (try refine WJ.cut ?_)
  refine OpJ.callV vi (fun _ _ => rfl) rfl rfl rfl ?_
  (repeat (first | refine Spl.t rfl ?_ | refine Spl.f rfl ?_))
  (first | refine Sq.go ?_ | refine vL_nil (Sq.go ?_) | skip)
  (try refine WJ.cut ?_)
  rcases hI with hI | ⟨hI, i1⟩
  · refine Spl.f (decide_eq_false hI) ?_
    ((repeat (first | refine Spl.t rfl ?_ | refine Spl.f rfl ?_)); (first | refine Sq.go ?_ | refine vL_nil (Sq.go ?_) | skip); (try refine WJ.cut ?_); refine OpJ.callV vd (fun _ _ => rfl) rfl rfl rfl ?_; (repeat (first | refine Spl.t rfl ?_ | refine Spl.f rfl ?_)); (first | refine Sq.go ?_ | refine vL_nil (Sq.go ?_) | skip); (try refine WJ.cut ?_); rcases hD with hD | ⟨hD, d1, d2⟩; (refine Spl.f (decide_eq_false hD) ?_; ((repeat (first | refine Spl.t rfl ?_ | refine Spl.f rfl ?_)); (first | refine Sq.go ?_ | refine vL_nil (Sq.go ?_) | skip); (try refine vc_sound _ _ _ _ ?_); refine OpJ.callV Awake11_c (fun _ _ => rfl) rfl rfl rfl ?_; exact FinP.open rfl rfl)); (subst hD; refine Spl.t rfl ?_; (repeat (first | refine Spl.t rfl ?_ | refine Spl.f rfl ?_)); refine OpJ.callV d1 (fun _ _ => rfl) rfl rfl rfl ?_; (repeat (first | refine Spl.t rfl ?_ | refine Spl.f rfl ?_)); refine Spl.of (fun h2 => ?_) (fun h2 => ?_); (have h2 := of_decide_eq_true h2; rw [if_pos h2] at d1; (repeat (first | refine Spl.t rfl ?_ | refine Spl.f rfl ?_)); refine Spl.f (by rw [if_pos h2, wrap_id _ (by omega) (by omega)]; simp) ?_; (repeat (first | refine Spl.t rfl ?_ | refine Spl.f rfl ?_)); refine OpJ.callV d2 (fun _ _ => rfl) rfl rfl rfl ?_; (repeat (first | refine Spl.t rfl ?_ | refine Spl.f rfl ?_)); refine Spl.f (by simp) ?_; ((repeat (first | refine Spl.t rfl ?_ | refine Spl.f rfl ?_)); (first | refine Sq.go ?_ | refine vL_nil (Sq.go ?_) | skip); (try refine vc_sound _ _ _ _ ?_); refine OpJ.callV Awake11_c (fun _ _ => rfl) rfl rfl rfl ?_; exact FinP.open rfl rfl)); (have h2 := of_decide_eq_false h2; (repeat (first | refine Spl.t rfl ?_ | refine Spl.f rfl ?_)); refine Spl.f (by rw [if_neg h2, wrap_id _ (by omega) (by omega)]; simp) ?_; (repeat (first | refine Spl.t rfl ?_ | refine Spl.f rfl ?_)); refine OpJ.callV d2 (fun _ _ => rfl) rfl rfl rfl ?_; (repeat (first | refine Spl.t rfl ?_ | refine Spl.f rfl ?_)); refine Spl.f (by simp) ?_; ((repeat (first | refine Spl.t rfl ?_ | refine Spl.f rfl ?_)); (first | refine Sq.go ?_ | refine vL_nil (Sq.go ?_) | skip); (try refine vc_sound _ _ _ _ ?_); refine OpJ.callV Awake11_c (fun _ _ => rfl) rfl rfl rfl ?_; exact FinP.open rfl rfl))))
  · subst hI
    refine Spl.t rfl ?_
    (repeat (first | refine Spl.t rfl ?_ | refine Spl.f rfl ?_))
    refine OpJ.callV i1 (fun _ _ => rfl) rfl rfl rfl ?_
    (repeat (first | refine Spl.t rfl ?_ | refine Spl.f rfl ?_))
    refine Spl.of (fun h1 => ?_) (fun h1 => ?_)
    · have h1 := of_decide_eq_true h1
      (repeat (first | refine Spl.t rfl ?_ | refine Spl.f rfl ?_))
      refine Spl.f (by rw [if_pos h1, wrap_id _ (by omega) (by omega)]; simp) ?_
      ((repeat (first | refine Spl.t rfl ?_ | refine Spl.f rfl ?_)); (first | refine Sq.go ?_ | refine vL_nil (Sq.go ?_) | skip); (try refine WJ.cut ?_); refine OpJ.callV vd (fun _ _ => rfl) rfl rfl rfl ?_; (repeat (first | refine Spl.t rfl ?_ | refine Spl.f rfl ?_)); (first | refine Sq.go ?_ | refine vL_nil (Sq.go ?_) | skip); (try refine WJ.cut ?_); rcases hD with hD | ⟨hD, d1, d2⟩; (refine Spl.f (decide_eq_false hD) ?_; ((repeat (first | refine Spl.t rfl ?_ | refine Spl.f rfl ?_)); (first | refine Sq.go ?_ | refine vL_nil (Sq.go ?_) | skip); (try refine vc_sound _ _ _ _ ?_); refine OpJ.callV Awake11_c (fun _ _ => rfl) rfl rfl rfl ?_; exact FinP.open rfl rfl)); (subst hD; refine Spl.t rfl ?_; (repeat (first | refine Spl.t rfl ?_ | refine Spl.f rfl ?_)); refine OpJ.callV d1 (fun _ _ => rfl) rfl rfl rfl ?_; (repeat (first | refine Spl.t rfl ?_ | refine Spl.f rfl ?_)); refine Spl.of (fun h2 => ?_) (fun h2 => ?_); (have h2 := of_decide_eq_true h2; rw [if_pos h2] at d1; (repeat (first | refine Spl.t rfl ?_ | refine Spl.f rfl ?_)); refine Spl.f (by rw [if_pos h2, wrap_id _ (by omega) (by omega)]; simp) ?_; (repeat (first | refine Spl.t rfl ?_ | refine Spl.f rfl ?_)); refine OpJ.callV d2 (fun _ _ => rfl) rfl rfl rfl ?_; (repeat (first | refine Spl.t rfl ?_ | refine Spl.f rfl ?_)); refine Spl.f (by simp) ?_; ((repeat (first | refine Spl.t rfl ?_ | refine Spl.f rfl ?_)); (first | refine Sq.go ?_ | refine vL_nil (Sq.go ?_) | skip); (try refine vc_sound _ _ _ _ ?_); refine OpJ.callV Awake11_c (fun _ _ => rfl) rfl rfl rfl ?_; exact FinP.open rfl rfl)); (have h2 := of_decide_eq_false h2; (repeat (first | refine Spl.t rfl ?_ | refine Spl.f rfl ?_)); refine Spl.f (by rw [if_neg h2, wrap_id _ (by omega) (by omega)]; simp) ?_; (repeat (first | refine Spl.t rfl ?_ | refine Spl.f rfl ?_)); refine OpJ.callV d2 (fun _ _ => rfl) rfl rfl rfl ?_; (repeat (first | refine Spl.t rfl ?_ | refine Spl.f rfl ?_)); refine Spl.f (by simp) ?_; ((repeat (first | refine Spl.t rfl ?_ | refine Spl.f rfl ?_)); (first | refine Sq.go ?_ | refine vL_nil (Sq.go ?_) | skip); (try refine vc_sound _ _ _ _ ?_); refine OpJ.callV Awake11_c (fun _ _ => rfl) rfl rfl rfl ?_; exact FinP.open rfl rfl))))
    · have h1 := of_decide_eq_false h1
      (repeat (first | refine Spl.t rfl ?_ | refine Spl.f rfl ?_))
      refine Spl.f (by rw [if_neg h1, wrap_id _ (by omega) (by omega)]; simp) ?_
      ((repeat (first | refine Spl.t rfl ?_ | refine Spl.f rfl ?_)); (first | refine Sq.go ?_ | refine vL_nil (Sq.go ?_) | skip); (try refine WJ.cut ?_); refine OpJ.callV vd (fun _ _ => rfl) rfl rfl rfl ?_; (repeat (first | refine Spl.t rfl ?_ | refine Spl.f rfl ?_)); (first | refine Sq.go ?_ | refine vL_nil (Sq.go ?_) | skip); (try refine WJ.cut ?_); rcases hD with hD | ⟨hD, d1, d2⟩; (refine Spl.f (decide_eq_false hD) ?_; ((repeat (first | refine Spl.t rfl ?_ | refine Spl.f rfl ?_)); (first | refine Sq.go ?_ | refine vL_nil (Sq.go ?_) | skip); (try refine vc_sound _ _ _ _ ?_); refine OpJ.callV Awake11_c (fun _ _ => rfl) rfl rfl rfl ?_; exact FinP.open rfl rfl)); (subst hD; refine Spl.t rfl ?_; (repeat (first | refine Spl.t rfl ?_ | refine Spl.f rfl ?_)); refine OpJ.callV d1 (fun _ _ => rfl) rfl rfl rfl ?_; (repeat (first | refine Spl.t rfl ?_ | refine Spl.f rfl ?_)); refine Spl.of (fun h2 => ?_) (fun h2 => ?_); (have h2 := of_decide_eq_true h2; rw [if_pos h2] at d1; (repeat (first | refine Spl.t rfl ?_ | refine Spl.f rfl ?_)); refine Spl.f (by rw [if_pos h2, wrap_id _ (by omega) (by omega)]; simp) ?_; (repeat (first | refine Spl.t rfl ?_ | refine Spl.f rfl ?_)); refine OpJ.callV d2 (fun _ _ => rfl) rfl rfl rfl ?_; (repeat (first | refine Spl.t rfl ?_ | refine Spl.f rfl ?_)); refine Spl.f (by simp) ?_; ((repeat (first | refine Spl.t rfl ?_ | refine Spl.f rfl ?_)); (first | refine Sq.go ?_ | refine vL_nil (Sq.go ?_) | skip); (try refine vc_sound _ _ _ _ ?_); refine OpJ.callV Awake11_c (fun _ _ => rfl) rfl rfl rfl ?_; exact FinP.open rfl rfl)); (have h2 := of_decide_eq_false h2; (repeat (first | refine Spl.t rfl ?_ | refine Spl.f rfl ?_)); refine Spl.f (by rw [if_neg h2, wrap_id _ (by omega) (by omega)]; simp) ?_; (repeat (first | refine Spl.t rfl ?_ | refine Spl.f rfl ?_)); refine OpJ.callV d2 (fun _ _ => rfl) rfl rfl rfl ?_; (repeat (first | refine Spl.t rfl ?_ | refine Spl.f rfl ?_)); refine Spl.f (by simp) ?_; ((repeat (first | refine Spl.t rfl ?_ | refine Spl.f rfl ?_)); (first | refine Sq.go ?_ | refine vL_nil (Sq.go ?_) | skip); (try refine vc_sound _ _ _ _ ?_); refine OpJ.callV Awake11_c (fun _ _ => rfl) rfl rfl rfl ?_; exact FinP.open rfl rfl))))
end Go.Proofs.E
end
