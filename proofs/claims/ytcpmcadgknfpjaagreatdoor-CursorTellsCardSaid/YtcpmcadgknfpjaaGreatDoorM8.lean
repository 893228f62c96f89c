/- Laws that the claim's text stands on: A version: the law's comparisons; A version: an act, by the program and by the document; A room of operations that wait: the law's example; A version: the law's example; A version: the law VersionPlays; A cursor: what its calls answer, and the document's; A cursor, as the document has it; the law's versions; A region that draws its order: quiet operations, births, and stores into private variables that do not wait for what stands ahead of them; A cursor: the law's example; the law CursorTells. -/
import Derived.Test.YtcpmcadgknfpjaaGreatDoorM1
import Derived.Test.YtcpmcadgknfpjaaGreatDoorM2
import Derived.Test.YtcpmcadgknfpjaaGreatDoorM3
import Derived.Test.YtcpmcadgknfpjaaGreatDoorDShelf
import Derived.Test.YtcpmcadgknfpjaaGreatDoorM4
import Derived.Test.YtcpmcadgknfpjaaGreatDoorM5
import Derived.Test.YtcpmcadgknfpjaaGreatDoorM6
import Derived.Test.YtcpmcadgknfpjaaGreatDoorM7
set_option linter.unusedVariables false
set_option linter.unusedSimpArgs false
section
open Go Go.Gv
attribute [local irreducible] Go.Gv.WJ Go.Gv.OpJ Go.Gv.QJ Go.Gv.Spl Go.Gv.Req Go.Gv.IdxP Go.Gv.RegP Go.Gv.FinP Go.Gv.CellP Go.Gv.CellsP Go.Gv.ArrP Go.Gv.ArrsP Go.Gv.DropP Go.Gv.ByteP Go.Gv.StoreP
set_option maxRecDepth 100000
namespace Go.Proofs.E
attribute [local irreducible] elems
theorem Dn_pre : ∀ {a b : List OP}, Dn (a ++ b) → Dn a := by
  intro a b h
  generalize hl : a ++ b = l at h
  induction h generalizing a b with
  | nil => rw [(List.append_eq_nil_iff.1 hl).1]; exact .nil
  | @snoc l o h hw ih =>
    rcases List.eq_nil_or_concat b with hb | ⟨c, x, hb⟩
    · subst hb
      rw [List.append_nil] at hl
      rw [hl]; exact .snoc h hw
    · rw [hb, List.concat_eq_append, ← List.append_assoc] at hl
      exact ih (List.append_inj' hl rfl).1
theorem Dn_take {l : List OP} (h : Dn l) (i : Nat) : Dn (l.take i) := Dn_pre (b := l.drop i) (by rw [List.take_append_drop]; exact h)
theorem sumV_take {l : List OP} (h : Dn l) {i : Nat} {x : OP} (hx : l[i]? = some x) : (x.k = 0 → sumV (l.take (i + 1)) = (sumV (l.take i)).add (TL.one x.i) ∧ (sumV (l.take i)).n + 1 ≤ 4096 ∧ mayI x.i = true) ∧ (x.k ≠ 0 → sumV (l.take (i + 1)) = sumV (l.take i)) := by
  have hsn := take_snoc hx
  refine ⟨fun hk => ?_, fun hk => by rw [hsn, sumV_snoc1 hk]⟩
  refine ⟨by rw [hsn, sumV_snoc0 hk], ?_, checkO_may (h.is.ok x (List.mem_of_getElem? hx))⟩
  have := (Dn_take h (i + 1)).is.len
  rw [hsn, insL_snoc0 hk] at this
  rw [sumV_n]; simp at this; omega
theorem Is8_c {s : SS} {l : List OP} (h : isS s l) (R : List OP) (hR : R.length ≤ 100000) : Cv 50 [vv s l R, rvv l R] (bv true) := by
  have hlist := RList8_c h.dn R
  have hwait := VWaiting_c s l R (by omega)
  have hlr := row_le h.dn
  have htx := VText_c h R
  have hrt := RText8_c h.dn R
  have hle := VLen_c h R
  have hrk := RRank_c (rowE l) ((rowE l).map elD).length (by omega)
  have hra : rankL (rowE l) (((rowE l).map elD).length : Nat) = liveL (rowE l) := by rw [List.length_map]; exact rank_all _
  rw [hra] at hrk
  have hsq := VSeq_c s l R
  have htl := VTally_c s l R
  have hst := StringT_c (sumV l) (sum_ok h.dn)
  have hrs := RText2_c (sumV l) (sum_ok h.dn)
  have hl2 := h.dn.len2
  have hall : l.take l.length = l := List.take_length
  refine Ct.of_wv Tryz.f50 Tryz.func50 rfl rfl fun w H B g0 => ?_
  try refine WJ.cut ?_
  (first | refine Sq.go ?_ | refine vL_nil (Sq.go ?_) | skip)
  try refine WJ.cut ?_
  refine OpJ.callV hlist (fun _ _ => rfl) rfl rfl rfl ?_
  (first | refine Sq.go ?_ | refine vL_nil (Sq.go ?_) | skip)
  try refine WJ.cut ?_
  refine OpJ.callV hwait (fun _ _ => rfl) rfl rfl rfl ?_
  (first | refine Sq.go ?_ | refine vL_nil (Sq.go ?_) | skip)
  try refine WJ.cut ?_
  (first | refine Sq.go ?_ | refine vL_nil (Sq.go ?_) | skip)
  try refine WJ.cut ?_
  refine WJ.loopK (V := Nat) (fun i => [(19, iv i)]) (fun i => [(7, .cells [iv (sumV (l.take i)).n, iv (sumV (l.take i)).a, iv (sumV (l.take i)).b, iv (sumV (l.take i)).c, iv (sumV (l.take i)).d])]) [7] (fun i => l.length - i) (fun i => i ≤ l.length) 0 (by omega) (by repeat' (first | exact trivial | exact rfl | refine And.intro ?_ ?_)) (by repeat' (first | exact trivial | exact rfl | refine And.intro ?_ ?_)) ?_
  intro i hi
  refine Spl.of (fun h1 => ?_) (fun h1 => ?_)
  · have hlt : i < l.length := by have := of_decide_eq_true h1; simp at this; omega
    have hx : l[i]? = some l[i] := by simp
    obtain ⟨t1, t2⟩ := sumV_take h.dn hx
    have hok := sum_ok (Dn_take h.dn i)
    generalize l[i] = x at hx t1 t2
    (repeat (first | refine Spl.t rfl ?_ | refine Spl.f rfl ?_))
    refine IdxP.of (opD x) (by omega) (by simp [hx]) ?_
    (repeat (first | refine Spl.t rfl ?_ | refine Spl.f rfl ?_))
    refine Spl.of (fun h2 => ?_) (fun h2 => ?_)
    · obtain ⟨t3, t4, t5⟩ := t1 (of_decide_eq_true h2)
      have hput := RPut2_c (sumV (l.take i)) x.i hok t5 t4
      rw [← t3] at hput
      (repeat (first | refine Spl.t rfl ?_ | refine Spl.f rfl ?_))
      refine OpJ.callV hput (fun _ _ => rfl) rfl rfl rfl ?_
      (repeat (first | refine Spl.t rfl ?_ | refine Spl.f rfl ?_))
      exact ⟨i + 1, by omega, by omega, ⟨some_iv (wrap_id _ (by omega) (by omega)), trivial⟩, (by repeat' (first | exact trivial | exact rfl | refine And.intro ?_ ?_)), (by repeat' (first | exact trivial | exact rfl | refine And.intro ?_ ?_)), (by repeat' (first | exact trivial | exact rfl | refine And.intro ?_ ?_))⟩
    · have t3 := t2 (of_decide_eq_false h2)
      (repeat (first | refine Spl.t rfl ?_ | refine Spl.f rfl ?_))
      exact ⟨i + 1, by omega, by omega, ⟨some_iv (wrap_id _ (by omega) (by omega)), trivial⟩, (by repeat' (first | exact trivial | exact rfl | refine And.intro ?_ ?_)), ⟨by rw [t3]; rfl, trivial⟩, (by repeat' (first | exact trivial | exact rfl | refine And.intro ?_ ?_))⟩
  have hi2 : i = l.length := by have := of_decide_eq_false h1; simp at this; omega
  subst hi2
  rw [hall]
  (repeat (first | refine Spl.t rfl ?_ | refine Spl.f rfl ?_))
  (first | refine Sq.go ?_ | refine vL_nil (Sq.go ?_) | skip)
  try refine WJ.cut ?_
  refine RegP.of rfl (by decide +kernel) ?_
  refine QuietP.of (QJ.call htx (fun _ _ => rfl) rfl rfl) ?_
  (repeat (first | refine Spl.t rfl ?_ | refine Spl.f rfl ?_))
  refine QuietP.of (QJ.call hrt (fun _ _ => rfl) rfl rfl) ?_
  (repeat (first | refine Spl.t rfl ?_ | refine Spl.f rfl ?_))
  refine Spl.f (by simp) ?_
  (repeat (first | refine Spl.t rfl ?_ | refine Spl.f rfl ?_))
  refine QuietP.of (QJ.call hle (fun _ _ => rfl) rfl rfl) ?_
  (repeat (first | refine Spl.t rfl ?_ | refine Spl.f rfl ?_))
  refine QuietP.of (QJ.call hrk (fun _ _ => rfl) rfl rfl) ?_
  (repeat (first | refine Spl.t rfl ?_ | refine Spl.f rfl ?_))
  refine Spl.f (by simp) ?_
  (repeat (first | refine Spl.t rfl ?_ | refine Spl.f rfl ?_))
  refine QuietP.of (QJ.call hsq (fun _ _ => rfl) rfl rfl) ?_
  (repeat (first | refine Spl.t rfl ?_ | refine Spl.f rfl ?_))
  refine Spl.f (by simp) ?_
  (repeat (first | refine Spl.t rfl ?_ | refine Spl.f rfl ?_))
  refine Spl.f (by simp) ?_
  (repeat (first | refine Spl.t rfl ?_ | refine Spl.f rfl ?_))
  refine QuietP.of (QJ.call htl (fun _ _ => rfl) rfl rfl) ?_
  (repeat (first | refine Spl.t rfl ?_ | refine Spl.f rfl ?_))
  refine QuietP.of (QJ.call hst (fun _ _ => rfl) rfl rfl) ?_
  (repeat (first | refine Spl.t rfl ?_ | refine Spl.f rfl ?_))
  refine QuietP.of (QJ.call hrs (fun _ _ => rfl) rfl rfl) ?_
  (repeat (first | refine Spl.t rfl ?_ | refine Spl.f rfl ?_))
  refine Spl.f (by simp) ?_
  (repeat (first | refine Spl.t rfl ?_ | refine Spl.f rfl ?_))
  (first | refine Sq.go ?_ | refine vL_nil (Sq.go ?_) | skip)
  try refine WJ.cut ?_
  clear hi h1
  refine WJ.loopK (V := Nat) (fun i => [(74, iv i)]) (fun _ => []) [] (fun i => R.length - i) (fun i => i ≤ R.length) 0 (by omega) (by repeat' (first | exact trivial | exact rfl | refine And.intro ?_ ?_)) (by repeat' (first | exact trivial | exact rfl | refine And.intro ?_ ?_)) ?_
  intro i hi
  refine Spl.of (fun h1 => ?_) (fun h1 => ?_)
  · have hlt : i < R.length := by have := of_decide_eq_true h1; simp at this; omega
    have hx : R[i]? = some R[i] := by simp
    generalize R[i] = x at hx
    (repeat (first | refine Spl.t rfl ?_ | refine Spl.f rfl ?_))
    refine RegP.of rfl (by decide +kernel) ?_
    refine IdxP.of (opD x) (by omega) (by simp [hx]) ?_
    refine QuietP.of (QJ.call (Of5_c x) (fun _ _ => rfl) rfl rfl) ?_
    refine IdxP.of (opD x) (by omega) (by simp [hx]) ?_
    refine QuietP.of (O.neT 4 rfl rfl rfl rfl rfl eqRO_ok eqRO_g (eqRO x x)) ?_
    refine Spl.f (by simp) ?_
    (repeat (first | refine Spl.t rfl ?_ | refine Spl.f rfl ?_))
    exact ⟨i + 1, by omega, by omega, ⟨some_iv (wrap_id _ (by omega) (by omega)), trivial⟩, (by repeat' (first | exact trivial | exact rfl | refine And.intro ?_ ?_)), (by repeat' (first | exact trivial | exact rfl | refine And.intro ?_ ?_)), (by repeat' (first | exact trivial | exact rfl | refine And.intro ?_ ?_))⟩
  · (repeat (first | refine Spl.t rfl ?_ | refine Spl.f rfl ?_))
    (first | refine Sq.go ?_ | refine vL_nil (Sq.go ?_) | skip)
    try refine vc_sound _ _ _ _ ?_
    exact FinP.open rfl rfl
theorem eqCH (a b : CH) : eqT Tryz.prog 4 175 [.int .i64 a.seq, .int .i64 a.at_, .int .i64 a.id.c, .int .i64 a.id.s, .int .i32 a.ch, .bool a.del] [.int .i64 b.seq, .int .i64 b.at_, .int .i64 b.id.c, .int .i64 b.id.s, .int .i32 b.ch, .bool b.del] = some (decide (a = b)) := by
  obtain ⟨q, u, ⟨c, s⟩, h, d⟩ := a
  obtain ⟨q', u', ⟨c', s'⟩, h', d'⟩ := b
  have e : eqT Tryz.prog 4 175 [.int .i64 q, .int .i64 u, .int .i64 c, .int .i64 s, .int .i32 h, .bool d] [.int .i64 q', .int .i64 u', .int .i64 c', .int .i64 s', .int .i32 h', .bool d'] = some (decide (q = q') && (decide (u = u') && ((decide (c = c') && (decide (s = s') && true)) && (decide (h = h') && (decide (d = d') && true))))) := by rfl
  rw [e]
  congr 1
  rw [Bool.eq_iff_iff]
  simp [and_assoc]
theorem eqCH_ok : eqOk Tryz.prog 4 175 = true := by kernel_rfl
theorem eqCH_g : Tryz.prog.eqGuardType Tryz.prog.depth 175 = false := by kernel_rfl
theorem Changes8_c (out : List CH) (hn : out.length ≤ 1000000) : Cv 49 [.d (chs out), .d (chs out)] (bv true) := by
  refine Ct.of_vc Tryz.f49 Tryz.func49 rfl rfl fun w H B g0 => ?_
  refine Spl.f (by simp) ?_
  (repeat (first | refine Spl.t rfl ?_ | refine Spl.f rfl ?_))
  refine WJ.loopK (V := Nat) (fun i => [(14, iv i)]) (fun _ => []) [] (fun i => out.length - i) (fun i => i ≤ out.length) 0 (by omega) (by repeat' (first | exact trivial | exact rfl | refine And.intro ?_ ?_)) (by repeat' (first | exact trivial | exact rfl | refine And.intro ?_ ?_)) ?_
  intro i hi
  refine Spl.of (fun h1 => ?_) (fun h1 => ?_)
  · have hlt : i < out.length := by have := of_decide_eq_true h1; simp at this; omega
    have hx : out[i]? = some out[i] := by simp
    generalize out[i] = x at hx
    (repeat (first | refine Spl.t rfl ?_ | refine Spl.f rfl ?_))
    refine IdxP.of (chD x) (by omega) (by simp [hx]) ?_
    (repeat (first | refine Spl.t rfl ?_ | refine Spl.f rfl ?_))
    refine RegP.of rfl (by decide +kernel) ?_
    refine QuietP.of (QJ.call (Of_c x.id) (fun _ _ => rfl) rfl rfl) ?_
    refine IdxP.of (chD x) (by omega) (by simp [hx]) ?_
    refine QuietP.of (O.neT 4 rfl rfl rfl rfl rfl eqCH_ok eqCH_g (eqCH x x)) ?_
    refine Spl.f (by simp) ?_
    (repeat (first | refine Spl.t rfl ?_ | refine Spl.f rfl ?_))
    exact ⟨i + 1, by omega, by omega, ⟨some_iv (wrap_id _ (by omega) (by omega)), trivial⟩, (by repeat' (first | exact trivial | exact rfl | refine And.intro ?_ ?_)), (by repeat' (first | exact trivial | exact rfl | refine And.intro ?_ ?_)), (by repeat' (first | exact trivial | exact rfl | refine And.intro ?_ ?_))⟩
  · (repeat (first | refine Spl.t rfl ?_ | refine Spl.f rfl ?_))
    exact FinP.open rfl rfl
end Go.Proofs.E
end
section
open Go Go.Gv
attribute [local irreducible] Go.Gv.WJ Go.Gv.OpJ Go.Gv.QJ Go.Gv.Spl Go.Gv.Req Go.Gv.IdxP Go.Gv.RegP Go.Gv.FinP Go.Gv.CellP Go.Gv.CellsP Go.Gv.ArrP Go.Gv.ArrsP Go.Gv.DropP Go.Gv.ByteP Go.Gv.StoreP
set_option maxRecDepth 100000
namespace Go.Proofs.E
attribute [local irreducible] elems
/-- What a version keeps to. -/
structure okV (v : VS) : Prop where
  is : isS v.s v.l
  ck : ∀ o, o ∈ v.R → checkO o = 0
  len : v.R.length ≤ 16
theorem okV.same {v : VS} (h : okV v) : okV v.same := ⟨h.is, h.ck, h.len⟩
theorem okV.take {v : VS} (h : okV v) (o : OP) : okV (v.take o) := ⟨appS_is h.is o, h.ck, h.len⟩
theorem next_mem {l R : List OP} : ∀ x, x ∈ nextR l R → x ∈ R := fun x hx => by
  unfold nextR at hx
  split at hx
  · exact hx
  · rcases List.mem_append.1 hx with h | h
    · exact List.mem_of_mem_take h
    · exact List.mem_of_mem_drop h
theorem nextR_le (l R : List OP) : (nextR l R).length ≤ R.length := by
  unfold nextR; split
  · exact Nat.le_refl _
  · simp; omega
theorem okV.next {v : VS} (h : okV v) : okV v.next := okV.take (v := ⟨v.s, v.l, nextR v.l v.R, v.out⟩) ⟨h.is, fun o ho => h.ck o (next_mem o ho), Nat.le_trans (nextR_le _ _) h.len⟩ _
theorem okV.drn : ∀ (n : Nat) {v : VS}, okV v → okV (drn n v)
  | 0, _, h => h
  | n + 1, v, h => by
    rw [E.drn]
    split
    · exact h
    · exact okV.drn n h.next
theorem drn_out : ∀ (n : Nat) (v : VS), (drn n v).out.length ≤ v.out.length + n
  | 0, _ => Nat.le_refl _
  | n + 1, v => by
    rw [drn]
    split
    · omega
    · have h1 := drn_out n v.next
      have h2 := out_len v.out v.l (nextO v.l v.R)
      have h3 : v.next.out = outV v.out v.l (nextO v.l v.R) := rfl
      rw [h3] at h1; omega
theorem addE_0 {R : List OP} {o : OP} (h : addE R o = 0) : checkO o = 0 ∧ R.length < 16 := by
  unfold addE at h
  split at h
  · next h1 => exact absurd h h1
  · next h1 =>
    split at h
    · cases h
    · split at h
      · cases h
      · split at h
        · cases h
        · exact ⟨by simpa using h1, by omega⟩
theorem okV.rem {v : VS} (h : okV v) (o : OP) : okV (remV v o) := by
  unfold remV
  split
  · exact okV.drn _ (okV.take h.same o)
  · split
    · refine ⟨h.is, fun x hx => ?_, ?_⟩
      · simp only at hx
        unfold addR at hx
        split at hx
        · next h0 =>
          rcases List.mem_append.1 hx with hx | hx
          · exact h.ck x hx
          · rw [List.mem_singleton.1 hx]; exact (addE_0 h0).1
        · exact h.ck x hx
      · simp only
        unfold addR
        split
        · next h0 => have := (addE_0 h0).2; simp; omega
        · exact h.len
    · exact h.same
theorem rem_out {v : VS} (h : okV v) (o : OP) : (remV v o).out.length ≤ 17 := by
  have hl := h.len
  unfold remV
  split
  · have h1 := drn_out v.R.length (VS.take ⟨v.s, v.l, v.R, []⟩ o)
    have h2 := out_len [] v.l o
    have h3 : (VS.take ⟨v.s, v.l, v.R, []⟩ o).out = outV [] v.l o := rfl
    rw [h3] at h1
    simp at h2; omega
  · split <;> simp
theorem okV.doT {v : VS} (h : okV v) (o : OP) : okV (doT v o).1 ∧ (doT v o).1.out.length ≤ 17 := by
  unfold E.doT
  split
  · exact ⟨h.same, by simp [VS.same]⟩
  · exact ⟨h.rem o, rem_out h o⟩
theorem okV.ins {v : VS} (h : okV v) (site at_ ch : Int) : okV (insVT v site at_ ch).1 ∧ (insVT v site at_ ch).1.out.length ≤ 17 := by
  have h0 : okV v.same ∧ v.same.out.length ≤ 17 := ⟨h.same, by simp [VS.same]⟩
  unfold insVT
  split
  · exact h0
  · split
    · exact h0
    · split
      · exact h0
      · exact h.doT _
theorem okV.del {v : VS} (h : okV v) (at_ : Int) : okV (delVT v at_).1 ∧ (delVT v at_).1.out.length ≤ 17 := by
  unfold delVT
  split
  · exact h.doT _
  · exact ⟨h.same, by simp [VS.same]⟩
structure ACT where
  k : Int
  o : OP
  site : Int
  at_ : Int
  ch : Int
abbrev actD (x : ACT) : List D := [.v (.int .u8 x.k), .v (.int .i64 x.o.k), .v (.int .i64 x.o.i.c), .v (.int .i64 x.o.i.s), .v (.int .i64 x.o.a.c), .v (.int .i64 x.o.a.s), .v (.int .i32 x.o.ch), .v (.int .i64 x.site), .v (.int .i64 x.at_), .v (.int .i32 x.ch)]
abbrev actv (x : ACT) : AV := .agg [.d (.v (.int .u8 x.k)), iv x.o.k, iv x.o.i.c, iv x.o.i.s, iv x.o.a.c, iv x.o.a.s, cv' x.o.ch, iv x.site, iv x.at_, cv' x.ch]
def doV (v : VS) (x : ACT) : VS := if x.k = 0 then remV v x.o else if x.k = 1 then (insVT v x.site x.at_ x.ch).1 else if x.k = 2 then (delVT v x.at_).1 else v
theorem okV.act {v : VS} (h : okV v) (x : ACT) : okV (doV v x) := by
  unfold doV
  split
  · exact h.rem _
  · split
    · exact (h.ins _ _ _).1
    · split
      · exact (h.del _).1
      · exact h
set_option maxHeartbeats 4000000 in
theorem Do8_c {s : SS} {l R : List OP} (h : okV ⟨s, l, R, []⟩) (x : ACT) (hat : x.at_ ≤ 9223372036854775807) :
    Cv 17 [vv s l R, rvv l R, actv x] (.tup [vv (doV ⟨s, l, R, []⟩ x).s (doV ⟨s, l, R, []⟩ x).l (doV ⟨s, l, R, []⟩ x).R, rvv (doV ⟨s, l, R, []⟩ x).l (doV ⟨s, l, R, []⟩ x).R, bv true]) := by
  have hR := h.len
  simp only at hR
  have his := h.is
  simp only at his
  refine Ct.of_wv Tryz.f17 Tryz.func17 rfl rfl fun w H B g0 => ?_
  try refine WJ.cut ?_
  (first | refine Sq.go ?_ | refine vL_nil (Sq.go ?_) | skip)
  try refine WJ.cut ?_
  (first | refine Sq.go ?_ | refine vL_nil (Sq.go ?_) | skip)
  try refine WJ.cut ?_
  (first | refine Sq.go ?_ | refine vL_nil (Sq.go ?_) | skip)
  try refine WJ.cut ?_
  (first | refine Sq.go ?_ | refine vL_nil (Sq.go ?_) | skip)
  try refine WJ.cut ?_
  (first | refine Sq.go ?_ | refine vL_nil (Sq.go ?_) | skip)
  try refine WJ.cut ?_
  (first | refine Sq.go ?_ | refine vL_nil (Sq.go ?_) | skip)
  try refine WJ.cut ?_
  (first | refine Sq.go ?_ | refine vL_nil (Sq.go ?_) | skip)
  try refine WJ.cut ?_
  (first | refine Sq.go ?_ | refine vL_nil (Sq.go ?_) | skip)
  try refine WJ.cut ?_
  by_cases c0 : x.k = 0
  · have eD : doV ⟨s, l, R, []⟩ x = remV ⟨s, l, R, []⟩ x.o := if_pos c0
    have hp := Remote_c his R [] x.o (by omega)
    have hr := RRemote_c his R [] x.o (by omega)
    have hv := h.rem x.o
    have ho := rem_out h x.o
    rw [eD]
    generalize remE ⟨s, l, R, []⟩ x.o = e at hp hr
    generalize remV ⟨s, l, R, []⟩ x.o = v at hp hr hv ho ⊢
    have hch := Changes8_c v.out (by omega)
    have his8 := Is8_c hv.is v.R (by have := hv.len; omega)
    refine Spl.t (decide_eq_true c0) ?_
    (repeat (first | refine Spl.t rfl ?_ | refine Spl.f rfl ?_))
    refine OpJ.callV hp (fun _ _ => rfl) rfl rfl rfl ?_
    (repeat (first | refine Spl.t rfl ?_ | refine Spl.f rfl ?_))
    refine RegP.mixS 12 [10] rfl (by decide +kernel) ?_
    refine QuietP.of (QJ.call (Of5_c x.o) (fun _ _ => rfl) rfl rfl) ?_
    refine QuietP.of (QJ.call hr (fun _ _ => rfl) rfl rfl) ?_
    (repeat (first | refine Spl.t rfl ?_ | refine Spl.f rfl ?_))
    (first | refine Sq.go ?_ | refine vL_nil (Sq.go ?_) | skip)
    try refine vc_sound _ _ _ _ ?_
    refine RegP.mixS 24 [6, 7] rfl (by decide +kernel) ?_
    refine Spl.t (by simp) ?_
    (repeat (first | refine Spl.t rfl ?_ | refine Spl.f rfl ?_))
    refine QuietP.of (QJ.call (Of5_c OP0) (fun _ _ => rfl) rfl rfl) ?_
    (repeat (first | refine Spl.t rfl ?_ | refine Spl.f rfl ?_))
    refine QuietP.of (O.eqT 4 rfl rfl rfl rfl rfl eqRO_ok eqRO_g (eqRO OP0 OP0)) ?_
    refine Spl.t (by simp) ?_
    (repeat (first | refine Spl.t rfl ?_ | refine Spl.f rfl ?_))
    refine QuietP.of (QJ.call hch (fun _ _ => rfl) rfl rfl) ?_
    (repeat (first | refine Spl.t rfl ?_ | refine Spl.f rfl ?_))
    refine QuietP.of (QJ.call his8 (fun _ _ => rfl) rfl rfl) ?_
    exact FinP.open rfl rfl
  · refine Spl.f (decide_eq_false c0) ?_
    (repeat (first | refine Spl.t rfl ?_ | refine Spl.f rfl ?_))
    by_cases c1 : x.k = 1
    · have eD : doV ⟨s, l, R, []⟩ x = (insVT ⟨s, l, R, []⟩ x.site x.at_ x.ch).1 := (if_neg c0).trans (if_pos c1)
      have hp := VInsert_c his R (by omega) h.ck x.site x.at_ x.ch
      have hr := RInsert_c his R (by omega) h.ck x.site x.at_ x.ch
      obtain ⟨hv, ho⟩ := h.ins x.site x.at_ x.ch
      rw [eD]
      generalize insVT ⟨s, l, R, []⟩ x.site x.at_ x.ch = p at hp hr hv ho ⊢
      obtain ⟨v, o, e⟩ := p
      unfold resT at hp
      unfold resR at hr
      simp only at hp hr hv ho ⊢
      have hch := Changes8_c v.out (by omega)
      have his8 := Is8_c hv.is v.R (by have := hv.len; omega)
      refine Spl.t (decide_eq_true c1) ?_
      (repeat (first | refine Spl.t rfl ?_ | refine Spl.f rfl ?_))
      refine OpJ.callV hp (fun _ _ => rfl) rfl rfl rfl ?_
      (repeat (first | refine Spl.t rfl ?_ | refine Spl.f rfl ?_))
      refine OpJ.callV hr (fun _ _ => rfl) rfl rfl rfl ?_
      (repeat (first | refine Spl.t rfl ?_ | refine Spl.f rfl ?_))
      (first | refine Sq.go ?_ | refine vL_nil (Sq.go ?_) | skip)
      try refine vc_sound _ _ _ _ ?_
      refine RegP.mixS 24 [6, 7] rfl (by decide +kernel) ?_
      refine Spl.t (by simp) ?_
      (repeat (first | refine Spl.t rfl ?_ | refine Spl.f rfl ?_))
      refine QuietP.of (QJ.call (Of5_c o) (fun _ _ => rfl) rfl rfl) ?_
      (repeat (first | refine Spl.t rfl ?_ | refine Spl.f rfl ?_))
      refine QuietP.of (O.eqT 4 rfl rfl rfl rfl rfl eqRO_ok eqRO_g (eqRO o o)) ?_
      refine Spl.t (by simp) ?_
      (repeat (first | refine Spl.t rfl ?_ | refine Spl.f rfl ?_))
      refine QuietP.of (QJ.call hch (fun _ _ => rfl) rfl rfl) ?_
      (repeat (first | refine Spl.t rfl ?_ | refine Spl.f rfl ?_))
      refine QuietP.of (QJ.call his8 (fun _ _ => rfl) rfl rfl) ?_
      exact FinP.open rfl rfl
    · refine Spl.f (decide_eq_false c1) ?_
      (repeat (first | refine Spl.t rfl ?_ | refine Spl.f rfl ?_))
      by_cases c2 : x.k = 2
      · have eD : doV ⟨s, l, R, []⟩ x = (delVT ⟨s, l, R, []⟩ x.at_).1 := (if_neg c0).trans ((if_neg c1).trans (if_pos c2))
        have hp := VDelete_c his R (by omega) x.at_
        have hr := RDelete_c his R (by omega) x.at_ hat
        obtain ⟨hv, ho⟩ := h.del x.at_
        rw [eD]
        generalize delVT ⟨s, l, R, []⟩ x.at_ = p at hp hr hv ho ⊢
        obtain ⟨v, o, e⟩ := p
        unfold resT at hp
        unfold resR at hr
        simp only at hp hr hv ho ⊢
        have hch := Changes8_c v.out (by omega)
        have his8 := Is8_c hv.is v.R (by have := hv.len; omega)
        refine Spl.t (decide_eq_true c2) ?_
        (repeat (first | refine Spl.t rfl ?_ | refine Spl.f rfl ?_))
        refine OpJ.callV hp (fun _ _ => rfl) rfl rfl rfl ?_
        (repeat (first | refine Spl.t rfl ?_ | refine Spl.f rfl ?_))
        refine OpJ.callV hr (fun _ _ => rfl) rfl rfl rfl ?_
        (repeat (first | refine Spl.t rfl ?_ | refine Spl.f rfl ?_))
        (first | refine Sq.go ?_ | refine vL_nil (Sq.go ?_) | skip)
        try refine vc_sound _ _ _ _ ?_
        refine RegP.mixS 24 [6, 7] rfl (by decide +kernel) ?_
        refine Spl.t (by simp) ?_
        (repeat (first | refine Spl.t rfl ?_ | refine Spl.f rfl ?_))
        refine QuietP.of (QJ.call (Of5_c o) (fun _ _ => rfl) rfl rfl) ?_
        (repeat (first | refine Spl.t rfl ?_ | refine Spl.f rfl ?_))
        refine QuietP.of (O.eqT 4 rfl rfl rfl rfl rfl eqRO_ok eqRO_g (eqRO o o)) ?_
        refine Spl.t (by simp) ?_
        (repeat (first | refine Spl.t rfl ?_ | refine Spl.f rfl ?_))
        refine QuietP.of (QJ.call hch (fun _ _ => rfl) rfl rfl) ?_
        (repeat (first | refine Spl.t rfl ?_ | refine Spl.f rfl ?_))
        refine QuietP.of (QJ.call his8 (fun _ _ => rfl) rfl rfl) ?_
        exact FinP.open rfl rfl
      · have eD : doV ⟨s, l, R, []⟩ x = ⟨s, l, R, []⟩ := (if_neg c0).trans ((if_neg c1).trans (if_neg c2))
        rw [eD]
        refine Spl.f (decide_eq_false c2) ?_
        (repeat (first | refine Spl.t rfl ?_ | refine Spl.f rfl ?_))
        refine RegP.mixS 5 [6, 7] rfl (by decide +kernel) ?_
        refine .out (by simp) ?_
        exact FinP.open rfl rfl
end Go.Proofs.E
end
section
open Go Go.Gv
attribute [local irreducible] Go.Gv.WJ Go.Gv.OpJ Go.Gv.QJ Go.Gv.Spl Go.Gv.Req Go.Gv.IdxP Go.Gv.RegP Go.Gv.FinP Go.Gv.CellP Go.Gv.CellsP Go.Gv.ArrP Go.Gv.ArrsP Go.Gv.DropP Go.Gv.ByteP Go.Gv.StoreP
set_option maxRecDepth 100000
namespace Go.Proofs.E
attribute [local irreducible] elems
theorem nilRoom {γ : Ids} {H : HF} {u : Value} (r : Rep γ H (.agg [.d (.v (.slice none 0 0))]) u) : Rep γ H (rmv []) u := rep_agg_set (j := 0) r rfl fun _ h => nil_sl 6 h
theorem AddN_c (o : OP) : Cv 59 [.agg [.d (.v (.slice none 0 0))], opv o] (.tup [rmv (addR [] o), iv (addE [] o)]) := by
  refine Ct.view (Add_c [] o (by decide)) rfl fun j a b ha hb γ H u r => ?_
  match j, ha, hb with
  | 0, ha, hb => cases ha; cases hb; exact nilRoom r
  | 1, ha, hb => cases ha; cases hb; exact r
def aw7 : OP := ⟨0, ⟨2, 1⟩, ⟨1, 1⟩, 98⟩
theorem Awake7_c : Cv 55 [] (bv true) := by
  have hadd := AddN_c aw7
  rw [show addR [] aw7 = [aw7] by decide +kernel, show addE [] aw7 = 0 by decide +kernel] at hadd
  have hnx := Next_c isS_nil [aw7] (by decide)
  rw [show nextR [] [aw7] = [aw7] by decide +kernel, show nextO [] [aw7] = OP0 by decide +kernel, show decide (0 ≤ nextIx [] [aw7]) = false by decide +kernel] at hnx
  have hln := RLen_c [aw7]
  have htp := Top_c [aw7] (by decide)
  rw [show topR [aw7] = 2 by decide +kernel] at htp
  refine Ct.of_wv Tryz.f55 Tryz.func55 rfl rfl fun w H B g0 => ?_
  try refine WJ.cut ?_
  (first | refine Sq.go ?_ | refine vL_nil (Sq.go ?_) | skip)
  try refine WJ.cut ?_
  refine OpJ.callV hadd (fun _ _ => rfl) rfl rfl rfl ?_
  (first | refine Sq.go ?_ | refine vL_nil (Sq.go ?_) | skip)
  try refine WJ.cut ?_
  refine OpJ.callV hnx (fun _ _ => rfl) rfl rfl rfl ?_
  (first | refine Sq.go ?_ | refine vL_nil (Sq.go ?_) | skip)
  try refine WJ.cut ?_
  refine OpJ.callV Awake6_c (fun _ _ => rfl) rfl rfl rfl ?_
  (repeat (first | refine Spl.t rfl ?_ | refine Spl.f rfl ?_))
  refine OpJ.callV hln (fun _ _ => rfl) rfl rfl rfl ?_
  (repeat (first | refine Spl.t rfl ?_ | refine Spl.f rfl ?_))
  refine OpJ.callV htp (fun _ _ => rfl) rfl rfl rfl ?_
  (repeat (first | refine Spl.t rfl ?_ | refine Spl.f rfl ?_))
  (first | refine Sq.go ?_ | refine vL_nil (Sq.go ?_) | skip)
  try refine vc_sound _ _ _ _ ?_
  exact FinP.open rfl rfl
end Go.Proofs.E
end
section
open Go Go.Gv
attribute [local irreducible] Go.Gv.WJ Go.Gv.OpJ Go.Gv.QJ Go.Gv.Spl Go.Gv.Req Go.Gv.IdxP Go.Gv.RegP Go.Gv.FinP Go.Gv.CellP Go.Gv.CellsP Go.Gv.ArrP Go.Gv.ArrsP Go.Gv.DropP Go.Gv.ByteP Go.Gv.StoreP
set_option maxRecDepth 100000
namespace Go.Proofs.E
attribute [local irreducible] elems
theorem nilV {γ : Ids} {H : HF} {u : Value} {t p : D} {n m k : Int} {z1 z2 : AV} (r : Rep γ H (.agg [.d t, .d p, iv n, .d (.v (.slice none 0 0)), iv m, iv k, z1, z2]) u) : Rep γ H (.agg [.d t, .d p, iv n, .d (.sl 6 []), iv m, iv k, z1, z2]) u := rep_agg_set (j := 3) r rfl fun _ h => nil_sl 6 h
/-- The zero version, as it lies. -/
abbrev vvN : AV := .agg [.d TR.nil.d, .d PT.nil.d, iv 0, .d (.v (.slice none 0 0)), iv 0, iv 0, cx 0 0, cx 0 0]
def vA0 : VS := ⟨⟨.nil, .nil, 0⟩, [], [], []⟩
theorem okA0 : okV vA0 := ⟨isS_nil, fun _ h => by simp [vA0] at h, by simp [vA0]⟩
def pA1 : VS × OP × Int := insVT vA0 1 0 97
def vA1 : VS := ⟨pA1.1.s, pA1.1.l, pA1.1.R, []⟩
def pA2 : VS × OP × Int := insVT vA1 1 1 98
def vA2 : VS := ⟨pA2.1.s, pA2.1.l, pA2.1.R, []⟩
def pA3 : VS × OP × Int := delVT vA2 0
theorem okV.out {v : VS} (h : okV v) : okV ⟨v.s, v.l, v.R, []⟩ := ⟨h.is, h.ck, h.len⟩
theorem okA1 : okV vA1 := (okA0.ins 1 0 97).1.out
theorem okA2 : okV vA2 := (okA1.ins 1 1 98).1.out
theorem okA3 : okV pA3.1 := (okA2.del 0).1
theorem InsN_c (site at_ ch : Int) : Cv 12 [vvN, iv site, iv at_, cv' ch] (resT (insVT vA0 site at_ ch)) := by
  refine Ct.view (VInsert_c (s := vA0.s) (l := vA0.l) okA0.is vA0.R (by decide) okA0.ck site at_ ch) rfl fun j a b ha hb γ H u r => ?_
  match j, ha, hb with
  | 0, ha, hb => cases ha; cases hb; exact nilV r
  | 1, ha, hb => cases ha; cases hb; exact r
  | 2, ha, hb => cases ha; cases hb; exact r
  | 3, ha, hb => cases ha; cases hb; exact r
theorem aw_l : byt (txtZ (rowE pA3.1.l)) = [98] := by decide +kernel
theorem aw_n : pA3.1.l.length = 3 := by decide +kernel
theorem aw_e : pA3.2.2 = 0 := by decide +kernel
theorem aw_out : pA3.1.out = [⟨3, 0, ⟨1, 1⟩, 97, true⟩] := by decide +kernel
theorem Awake8_c : Cv 10 [] (bv true) := by
  have h1 := InsN_c 1 0 97
  have h2 := VInsert_c okA1.is vA1.R (by have := okA1.len; omega) okA1.ck 1 1 98
  have h3 := VDelete_c okA2.is vA2.R (by have := okA2.len; omega) 0
  have tx := VText_c okA3.is pA3.1.R
  have sq := VSeq_c pA3.1.s pA3.1.l pA3.1.R
  rw [aw_l] at tx
  rw [aw_n] at sq
  have e1 : insVT vA0 1 0 97 = pA1 := rfl
  have e2 : insVT ⟨vA1.s, vA1.l, vA1.R, []⟩ 1 1 98 = pA2 := rfl
  have e3 : delVT ⟨vA2.s, vA2.l, vA2.R, []⟩ 0 = pA3 := rfl
  rw [e1] at h1
  rw [e2] at h2
  rw [e3] at h3
  have d1 : vA1 = ⟨pA1.1.s, pA1.1.l, pA1.1.R, []⟩ := rfl
  have d2 : vA2 = ⟨pA2.1.s, pA2.1.l, pA2.1.R, []⟩ := rfl
  rw [d1] at h2
  rw [d2] at h3
  have ho := aw_out
  have he := aw_e
  generalize pA3 = p3 at h3 tx sq ho he
  generalize pA2 = p2 at h2 h3
  generalize pA1 = p1 at h1 h2
  obtain ⟨v3, o3, e3'⟩ := p3
  obtain ⟨v2, o2, e2'⟩ := p2
  obtain ⟨v1, o1, e1'⟩ := p1
  unfold resT at h1 h2 h3
  simp only at h1 h2 h3 tx sq ho he
  rw [ho, he] at h3
  refine Ct.of_wv Tryz.f10 Tryz.func10 rfl rfl fun w H B g0 => ?_
  try refine WJ.cut ?_
  (first | refine Sq.go ?_ | refine vL_nil (Sq.go ?_) | skip)
  try refine WJ.cut ?_
  refine OpJ.callV h1 (fun _ _ => rfl) rfl rfl rfl ?_
  (repeat (first | refine Spl.t rfl ?_ | refine Spl.f rfl ?_))
  (first | refine Sq.go ?_ | refine vL_nil (Sq.go ?_) | skip)
  try refine WJ.cut ?_
  refine OpJ.callV h2 (fun _ _ => rfl) rfl rfl rfl ?_
  (repeat (first | refine Spl.t rfl ?_ | refine Spl.f rfl ?_))
  (first | refine Sq.go ?_ | refine vL_nil (Sq.go ?_) | skip)
  try refine WJ.cut ?_
  refine OpJ.callV h3 (fun _ _ => rfl) rfl rfl rfl ?_
  (repeat (first | refine Spl.t rfl ?_ | refine Spl.f rfl ?_))
  (first | refine Sq.go ?_ | refine vL_nil (Sq.go ?_) | skip)
  try refine vc_sound _ _ _ _ ?_
  refine OpJ.callV Awake2_c (fun _ _ => rfl) rfl rfl rfl ?_
  (repeat (first | refine Spl.t rfl ?_ | refine Spl.f rfl ?_))
  refine OpJ.callV Awake7_c (fun _ _ => rfl) rfl rfl rfl ?_
  (repeat (first | refine Spl.t rfl ?_ | refine Spl.f rfl ?_))
  refine OpJ.callV tx (fun _ _ => rfl) rfl rfl rfl ?_
  (repeat (first | refine Spl.t rfl ?_ | refine Spl.f rfl ?_))
  (try refine Spl.t (by decide) ?_)
  (repeat (first | refine Spl.t rfl ?_ | refine Spl.f rfl ?_))
  refine OpJ.callV sq (fun _ _ => rfl) rfl rfl rfl ?_
  (repeat (first | refine Spl.t rfl ?_ | refine Spl.f rfl ?_))
  (try refine Spl.t (by decide) ?_)
  (repeat (first | refine Spl.t rfl ?_ | refine Spl.f rfl ?_))
  refine IdxP.of (chD ⟨3, 0, ⟨1, 1⟩, 97, true⟩) (by decide) rfl ?_
  (repeat (first | refine Spl.t rfl ?_ | refine Spl.f rfl ?_))
  refine IdxP.of (chD ⟨3, 0, ⟨1, 1⟩, 97, true⟩) (by decide) rfl ?_
  (repeat (first | refine Spl.t rfl ?_ | refine Spl.f rfl ?_))
  exact FinP.open rfl rfl
end Go.Proofs.E
end
section
open Go Go.Gv
attribute [local irreducible] Go.Gv.WJ Go.Gv.OpJ Go.Gv.QJ Go.Gv.Spl Go.Gv.Req Go.Gv.IdxP Go.Gv.RegP Go.Gv.FinP Go.Gv.CellP Go.Gv.CellsP Go.Gv.ArrP Go.Gv.ArrsP Go.Gv.DropP Go.Gv.ByteP Go.Gv.StoreP
set_option maxRecDepth 100000
namespace Go.Proofs.E
attribute [local irreducible] elems
def okAct (x : ACT) : Prop := (-9223372036854775808 ≤ x.at_ ∧ x.at_ ≤ 9223372036854775807) ∧ (-2147483648 ≤ x.ch ∧ x.ch ≤ 2147483647)
theorem actRow (cs : List D) (h : (Ty.st [.int .u8, .st [.int .i64, .st [.int .i64, .int .i64], .st [.int .i64, .int .i64], .int .i32], .int .i64, .int .i64, .int .i32]).ok cs) : ∃ x : ACT, cs = actD x ∧ okAct x := by
  obtain ⟨_, _, rfl, ⟨k, rfl, _⟩, ⟨_, _, rfl, ⟨_, _, rfl, ⟨a0, rfl, _⟩, ⟨_, _, rfl, ⟨_, _, rfl, ⟨a1, rfl, _⟩, ⟨_, _, rfl, ⟨a2, rfl, _⟩, rfl⟩⟩, ⟨_, _, rfl, ⟨_, _, rfl, ⟨a3, rfl, _⟩, ⟨_, _, rfl, ⟨a4, rfl, _⟩, rfl⟩⟩, ⟨_, _, rfl, ⟨a5, rfl, _⟩, rfl⟩⟩⟩⟩, ⟨_, _, rfl, ⟨s, rfl, _⟩, ⟨_, _, rfl, ⟨at_, rfl, w⟩, ⟨_, _, rfl, ⟨ch, rfl, w2⟩, rfl⟩⟩⟩⟩⟩ := h
  exact ⟨⟨k, ⟨a0, ⟨a1, a2⟩, ⟨a3, a4⟩, a5⟩, s, at_, ch⟩, rfl, i64_rng w, i32_rng w2⟩
end Go.Proofs.E
end
section
open Go Go.Gv
attribute [local irreducible] Go.Gv.WJ Go.Gv.OpJ Go.Gv.QJ Go.Gv.Spl Go.Gv.Req Go.Gv.IdxP Go.Gv.RegP Go.Gv.FinP Go.Gv.CellP Go.Gv.CellsP Go.Gv.ArrP Go.Gv.ArrsP Go.Gv.DropP Go.Gv.ByteP Go.Gv.StoreP
set_option maxRecDepth 100000
namespace Go.Proofs.E
attribute [local irreducible] elems
def curAt (L : List EL) (k : Int) : ID × Int := if k = liveL L then (⟨0, 0⟩, 0) else if 0 ≤ k ∧ k < liveL L then (nameL L k, 0) else (⟨0, 0⟩, 2)
def resC (L : List EL) (a : ID) : Int × Int := if noneI a = true then (liveL L, 0) else if 0 ≤ placeL a L then (rankL L (placeL a L), 0) else (0, 6)
def movC (L : List EL) (a : ID) (by_ : Int) : ID × Int := if (resC L a).2 ≠ 0 then (⟨0, 0⟩, (resC L a).2) else if by_ > liveL L - (resC L a).1 ∨ by_ < -(resC L a).1 then (⟨0, 0⟩, 2) else curAt L ((resC L a).1 + by_)
def aliveC (L : List EL) (a : ID) : Bool := noneI a || (decide (0 ≤ placeL a L) && !((L[(placeL a L).toNat]?).getD EL0).dead)
/-! ### Places and ranks -/
theorem sel_alive : ∀ (L : List EL) (k : Nat), k < liveL L → ∃ e, L[selL k L]? = some e ∧ e.dead = false
  | [], k, h => by simp [liveL] at h
  | e :: L, k, h => by
    rw [live_cons] at h
    rw [selL]
    cases hd : e.dead with
    | true =>
      have h1 : TR.one e = 0 := by unfold TR.one; rw [hd]
      obtain ⟨x, h2, h3⟩ := sel_alive L k (by omega)
      simp only [if_true]
      exact ⟨x, by simpa using h2, h3⟩
    | false =>
      have h1 : TR.one e = 1 := by unfold TR.one; rw [hd]
      simp only [Bool.false_eq_true, if_false]
      by_cases h0 : k = 0
      · rw [if_pos h0]; exact ⟨e, rfl, hd⟩
      · rw [if_neg h0]
        obtain ⟨x, h2, h3⟩ := sel_alive L (k - 1) (by omega)
        exact ⟨x, by simpa using h2, h3⟩
theorem sel_rank : ∀ (L : List EL) (p : Nat) (e : EL), L[p]? = some e → e.dead = false → selL (rankL L (p : Nat)) L = p ∧ rankL L (p : Nat) < liveL L
  | [], p, e, h, _ => by simp at h
  | x :: L, 0, e, h, hd => by
    cases h
    have h1 : rankL (x :: L) ((0 : Nat) : Int) = 0 := rfl
    rw [h1, selL, live_cons]
    rw [if_neg (by rw [hd]; decide), if_pos rfl]
    have : TR.one x = 1 := by unfold TR.one; rw [hd]
    exact ⟨rfl, by omega⟩
  | x :: L, p + 1, e, h, hd => by
    obtain ⟨i1, i2⟩ := sel_rank L p e (by simpa using h) hd
    have h1 : rankL (x :: L) ((p + 1 : Nat) : Int) = TR.one x + rankL L (p : Nat) := by
      unfold rankL TR.one
      rw [Int.toNat_natCast, Int.toNat_natCast, List.take_succ_cons, List.filter_cons]
      cases x.dead <;> simp; omega
    rw [h1, selL, live_cons]
    cases hx : x.dead with
    | true =>
      have : TR.one x = 0 := by unfold TR.one; rw [hx]
      simp only [if_true]
      rw [this, Nat.zero_add, i1]
      exact ⟨rfl, by omega⟩
    | false =>
      have : TR.one x = 1 := by unfold TR.one; rw [hx]
      simp only [Bool.false_eq_true, if_false]
      rw [this, if_neg (by omega), show 1 + rankL L (p : Nat) - 1 = rankL L (p : Nat) by omega, i1]
      exact ⟨rfl, by omega⟩
theorem name_get {L : List EL} {k : Nat} (h : k < liveL L) : ∃ e, L[selL k L]? = some e ∧ e.dead = false ∧ nameL L k = e.id := by
  obtain ⟨e, h1, h2⟩ := sel_alive L k h
  refine ⟨e, h1, h2, ?_⟩
  unfold nameL
  rw [if_pos (by omega), Int.toNat_natCast, h1]; rfl
/-- Whether one is alive, by its rank. -/
theorem alive_rank {l : List OP} (h : Dn l) {a : ID} (hp : 0 ≤ placeL a (rowE l)) :
    (decide ((rankL (rowE l) (placeL a (rowE l)) : Int) < liveL (rowE l)) && decide (nameL (rowE l) (rankL (rowE l) (placeL a (rowE l)) : Nat) = a)) = !((rowE l)[(placeL a (rowE l)).toNat]?.getD EL0).dead := by
  obtain ⟨e, h1, h2, _⟩ := placeL_get hp
  have hnd := row_nd h
  rw [h1]
  have hpn : ((placeL a (rowE l)).toNat : Int) = placeL a (rowE l) := Int.toNat_of_nonneg hp
  generalize (placeL a (rowE l)).toNat = p at h1 hpn
  rw [← hpn]
  simp only [Option.getD_some]
  cases hd : e.dead with
  | false =>
    obtain ⟨i1, i2⟩ := sel_rank (rowE l) p e h1 hd
    have hn : nameL (rowE l) (rankL (rowE l) (p : Nat) : Nat) = a := by
      unfold nameL
      rw [if_pos (by omega), Int.toNat_natCast, i1, h1]; exact h2
    rw [hn, decide_eq_true (by omega)]; simp
  | true =>
    by_cases hk : rankL (rowE l) (p : Nat) < liveL (rowE l)
    · obtain ⟨x, j1, j2, j3⟩ := name_get hk
      have hne : ¬ nameL (rowE l) (rankL (rowE l) (p : Nat) : Nat) = a := fun ha => by
        rw [j3] at ha
        have := pw_get hnd j1 h1 (by rw [ha, h2])
        rw [this, h1] at j1
        cases j1
        rw [hd] at j2; cases j2
      rw [decide_eq_false hne]; simp
    · rw [decide_eq_false (by omega)]; simp
/-! ### The program's cursor -/
theorem CAt_c {s : SS} {l : List OP} (h : isS s l) (R : List OP) (k : Int) : Cv 28 [vv s l R, iv k] (.tup [idv (curAt (rowE l) k).1, iv (curAt (rowE l) k).2]) := by
  have hlen := VLen_c h R
  have hn := VNamed_c h R k
  refine Ct.of_vc Tryz.f28 Tryz.func28 rfl rfl fun w H B g0 => ?_
  refine OpJ.callV hlen (fun _ _ => rfl) rfl rfl rfl ?_
  refine Spl.of (fun h1 => ?_) (fun h1 => ?_)
  · have h1 := of_decide_eq_true h1
    have e : curAt (rowE l) k = (⟨0, 0⟩, 0) := if_pos h1
    rw [e]
    (repeat (first | refine Spl.t rfl ?_ | refine Spl.f rfl ?_))
    exact FinP.open rfl rfl
  · have h1 := of_decide_eq_false h1
    by_cases h2 : 0 ≤ k ∧ k < liveL (rowE l)
    · have e : curAt (rowE l) k = (nameL (rowE l) k, 0) := (if_neg h1).trans (if_pos h2)
      rw [decide_eq_true h2] at hn
      rw [e]
      (repeat (first | refine Spl.t rfl ?_ | refine Spl.f rfl ?_))
      refine OpJ.callV hn (fun _ _ => rfl) rfl rfl rfl ?_
      (repeat (first | refine Spl.t rfl ?_ | refine Spl.f rfl ?_))
      exact FinP.open rfl rfl
    · have e : curAt (rowE l) k = (⟨0, 0⟩, 2) := (if_neg h1).trans (if_neg h2)
      rw [decide_eq_false h2] at hn
      rw [e]
      (repeat (first | refine Spl.t rfl ?_ | refine Spl.f rfl ?_))
      refine OpJ.callV hn (fun _ _ => rfl) rfl rfl rfl ?_
      (repeat (first | refine Spl.t rfl ?_ | refine Spl.f rfl ?_))
      exact FinP.open rfl rfl
theorem CResolve_c {s : SS} {l : List OP} (h : isS s l) (R : List OP) (a : ID) : Cv 29 [idv a, vv s l R] (.tup [iv (resC (rowE l) a).1, iv (resC (rowE l) a).2]) := by
  have hlen := VLen_c h R
  have hb := VBefore_c h R a
  refine Ct.of_vc Tryz.f29 Tryz.func29 rfl rfl fun w H B g0 => ?_
  refine OpJ.callV (None_c a) (fun _ _ => rfl) rfl rfl rfl ?_
  refine Spl.of (fun h1 => ?_) (fun h1 => ?_)
  · have e : resC (rowE l) a = (((liveL (rowE l) : Nat) : Int), 0) := if_pos h1
    rw [e]
    (repeat (first | refine Spl.t rfl ?_ | refine Spl.f rfl ?_))
    refine OpJ.callV hlen (fun _ _ => rfl) rfl rfl rfl ?_
    exact FinP.open rfl rfl
  · by_cases h2 : 0 ≤ placeL a (rowE l)
    · have e : resC (rowE l) a = (((rankL (rowE l) (placeL a (rowE l)) : Nat) : Int), 0) := (if_neg (by rw [h1]; exact Bool.false_ne_true)).trans (if_pos h2)
      rw [decide_eq_true h2, show beforeL (rowE l) a = rankL (rowE l) (placeL a (rowE l)) from if_pos h2] at hb
      rw [e]
      (repeat (first | refine Spl.t rfl ?_ | refine Spl.f rfl ?_))
      refine OpJ.callV hb (fun _ _ => rfl) rfl rfl rfl ?_
      (repeat (first | refine Spl.t rfl ?_ | refine Spl.f rfl ?_))
      exact FinP.open rfl rfl
    · have e : resC (rowE l) a = (0, 6) := (if_neg (by rw [h1]; exact Bool.false_ne_true)).trans (if_neg h2)
      rw [decide_eq_false h2] at hb
      rw [e]
      (repeat (first | refine Spl.t rfl ?_ | refine Spl.f rfl ?_))
      refine OpJ.callV hb (fun _ _ => rfl) rfl rfl rfl ?_
      (repeat (first | refine Spl.t rfl ?_ | refine Spl.f rfl ?_))
      exact FinP.open rfl rfl
theorem resC_rng (L : List EL) (a : ID) : 0 ≤ (resC L a).1 ∧ (resC L a).1 ≤ liveL L := by
  unfold resC
  split
  · simp
  · split
    · refine ⟨by simp, ?_⟩
      have : rankL L (placeL a L) ≤ liveL L := by
        unfold rankL liveL
        have e := (List.take_append_drop (placeL a L).toNat L)
        conv => rhs; rw [← e]
        rw [List.filter_append, List.length_append]; omega
      simp only; omega
    · simp
theorem CMove_c {s : SS} {l : List OP} (h : isS s l) (R : List OP) (a : ID) (by_ : Int) (hb0 : -9223372036854775808 ≤ by_) (hb1 : by_ ≤ 9223372036854775807) : Cv 34 [idv a, vv s l R, iv by_] (.tup [idv (movC (rowE l) a by_).1, iv (movC (rowE l) a by_).2]) := by
  have hr := CResolve_c h R a
  have hlen := VLen_c h R
  have hrg := resC_rng (rowE l) a
  have hlr := row_le h.dn
  have hlv := live_le (rowE l)
  have hm : movC (rowE l) a by_ = if (resC (rowE l) a).2 ≠ 0 then (⟨0, 0⟩, (resC (rowE l) a).2) else if by_ > liveL (rowE l) - (resC (rowE l) a).1 ∨ by_ < -(resC (rowE l) a).1 then (⟨0, 0⟩, 2) else curAt (rowE l) ((resC (rowE l) a).1 + by_) := rfl
  have hat := CAt_c h R
  generalize resC (rowE l) a = p at hr hrg hm
  obtain ⟨n, e⟩ := p
  simp only at hr hrg hm
  have w1 : IntKind.i64.wrap (liveL (rowE l) - n) = liveL (rowE l) - n := wrap_id _ (by omega) (by omega)
  have w2 : IntKind.i64.wrap (0 - n) = -n := (congrArg _ (Int.zero_sub n)).trans (wrap_id _ (by omega) (by omega))
  generalize liveL (rowE l) = lv at *
  generalize movC (rowE l) a by_ = m at *
  refine Ct.of_vc Tryz.f34 Tryz.func34 rfl rfl fun w H B g0 => ?_
  refine OpJ.callV hr (fun _ _ => rfl) rfl rfl rfl ?_
  (repeat (first | refine Spl.t rfl ?_ | refine Spl.f rfl ?_))
  by_cases h1 : e ≠ 0
  · rw [if_pos h1] at hm
    subst hm
    refine Spl.t (by simpa using h1) ?_
    (repeat (first | refine Spl.t rfl ?_ | refine Spl.f rfl ?_))
    exact FinP.open rfl rfl
  · rw [if_neg h1] at hm
    refine Spl.f (by simpa using h1) ?_
    (repeat (first | refine Spl.t rfl ?_ | refine Spl.f rfl ?_))
    refine OpJ.callV hlen (fun _ _ => rfl) rfl rfl rfl ?_
    (repeat (first | refine Spl.t rfl ?_ | refine Spl.f rfl ?_))
    by_cases h2 : by_ > lv - n
    · rw [if_pos (.inl h2)] at hm
      subst hm
      refine Spl.t (by rw [w1]; exact decide_eq_true h2) ?_
      (repeat (first | refine Spl.t rfl ?_ | refine Spl.f rfl ?_))
      exact FinP.open rfl rfl
    · refine Spl.f (by rw [w1]; exact decide_eq_false h2) ?_
      (repeat (first | refine Spl.t rfl ?_ | refine Spl.f rfl ?_))
      by_cases h3 : by_ < -n
      · rw [if_pos (.inr h3)] at hm
        subst hm
        refine Spl.t (by rw [w2]; exact decide_eq_true h3) ?_
        (repeat (first | refine Spl.t rfl ?_ | refine Spl.f rfl ?_))
        exact FinP.open rfl rfl
      · rw [if_neg (fun h => by rcases h with h | h; exact h2 h; exact h3 h)] at hm
        refine Spl.f (by rw [w2]; exact decide_eq_false h3) ?_
        have w3 : IntKind.i64.wrap (n + by_) = n + by_ := wrap_id _ (by omega) (by omega)
        have hat := hat (n + by_)
        rw [← w3] at hat hm
        rw [← hm] at hat
        (repeat (first | refine Spl.t rfl ?_ | refine Spl.f rfl ?_))
        refine OpJ.callV hat (fun _ _ => rfl) rfl rfl rfl ?_
        (repeat (first | refine Spl.t rfl ?_ | refine Spl.f rfl ?_))
        exact FinP.open rfl rfl
theorem CAlive_c {s : SS} {l : List OP} (h : isS s l) (R : List OP) (a : ID) : Cv 30 [idv a, vv s l R] (bv (aliveC (rowE l) a)) := by
  have hb := VBefore_c h R a
  have hn := VNamed_c h R (beforeL (rowE l) a)
  refine Ct.of_vc Tryz.f30 Tryz.func30 rfl rfl fun w H B g0 => ?_
  refine OpJ.callV (None_c a) (fun _ _ => rfl) rfl rfl rfl ?_
  refine Spl.of (fun h1 => ?_) (fun h1 => ?_)
  · have e : aliveC (rowE l) a = true := by unfold aliveC; rw [h1]; rfl
    rw [e]
    (repeat (first | refine Spl.t rfl ?_ | refine Spl.f rfl ?_))
    exact FinP.open rfl rfl
  · by_cases h2 : 0 ≤ placeL a (rowE l)
    · have e : aliveC (rowE l) a = !((rowE l)[(placeL a (rowE l)).toNat]?.getD EL0).dead := by unfold aliveC; rw [h1, decide_eq_true h2]; rfl
      have har := alive_rank h.dn h2
      rw [decide_eq_true h2] at hb
      rw [show beforeL (rowE l) a = ((rankL (rowE l) (placeL a (rowE l)) : Nat) : Int) from if_pos h2] at hb hn
      rw [e, ← har]
      generalize rankL (rowE l) (placeL a (rowE l)) = n at hb hn ⊢
      have hd : decide (0 ≤ (n : Int) ∧ (n : Int) < liveL (rowE l)) = decide ((n : Int) < liveL (rowE l)) := decide_eq_decide.2 ⟨fun h => h.2, fun h => ⟨by omega, h⟩⟩
      rw [hd] at hn
      generalize decide ((n : Int) < liveL (rowE l)) = b at hn ⊢
      generalize nameL (rowE l) (n : Nat) = nm at hn ⊢
      (repeat (first | refine Spl.t rfl ?_ | refine Spl.f rfl ?_))
      refine OpJ.callV hb (fun _ _ => rfl) rfl rfl rfl ?_
      (repeat (first | refine Spl.t rfl ?_ | refine Spl.f rfl ?_))
      refine OpJ.callV hn (fun _ _ => rfl) rfl rfl rfl ?_
      (repeat (first | refine Spl.t rfl ?_ | refine Spl.f rfl ?_))
      refine Spl.of (fun h3 => ?_) (fun h3 => ?_)
      · subst h3
        (repeat (first | refine Spl.t rfl ?_ | refine Spl.f rfl ?_))
        refine OpJ.qu (O.eqT 3 rfl rfl rfl rfl rfl eqI_ok eqI_g (eqI nm a)) rfl ?_
        exact FinP.open rfl rfl
      · subst h3
        (repeat (first | refine Spl.t rfl ?_ | refine Spl.f rfl ?_))
        exact FinP.open rfl rfl
    · have e : aliveC (rowE l) a = false := by unfold aliveC; rw [h1, decide_eq_false h2]; rfl
      rw [decide_eq_false h2] at hb
      rw [e]
      (repeat (first | refine Spl.t rfl ?_ | refine Spl.f rfl ?_))
      refine OpJ.callV hb (fun _ _ => rfl) rfl rfl rfl ?_
      (repeat (first | refine Spl.t rfl ?_ | refine Spl.f rfl ?_))
      refine OpJ.callV hn (fun _ _ => rfl) rfl rfl rfl ?_
      (repeat (first | refine Spl.t rfl ?_ | refine Spl.f rfl ?_))
      exact FinP.open rfl rfl
end Go.Proofs.E
end
section
open Go Go.Gv
attribute [local irreducible] Go.Gv.WJ Go.Gv.OpJ Go.Gv.QJ Go.Gv.Spl Go.Gv.Req Go.Gv.IdxP Go.Gv.RegP Go.Gv.FinP Go.Gv.CellP Go.Gv.CellsP Go.Gv.ArrP Go.Gv.ArrsP Go.Gv.DropP Go.Gv.ByteP Go.Gv.StoreP
set_option maxRecDepth 100000
namespace Go.Proofs.E
attribute [local irreducible] elems
theorem none_iff (a : ID) : decide (a = ⟨0, 0⟩) = noneI a := by
  cases h : noneI a with
  | true => rw [none_eq h]; rfl
  | false =>
    refine decide_eq_false fun e => ?_
    rw [e] at h; exact absurd h (by decide)
theorem all_live (L : List EL) : rankL L (((L.map elD).length : Nat) : Int) = liveL L := by rw [List.length_map]; exact rank_all _
theorem RCAt_c {l : List OP} (h : Dn l) (R : List OP) (k : Int) (hk : k ≤ 9223372036854775807) : Cv 31 [rvv l R, iv k] (.tup [idv (curAt (rowE l) k).1, iv (curAt (rowE l) k).2]) := by
  have hli := RList8_c h R
  have hlr := row_le h
  have hrk := RRank_c (rowE l) ((rowE l).map elD).length (by omega)
  have hsl := RSelect_c (rowE l) k (by omega)
  rw [all_live] at hrk
  refine Ct.of_vc Tryz.f31 Tryz.func31 rfl rfl fun w H B g0 => ?_
  refine OpJ.callV hli (fun _ _ => rfl) rfl rfl rfl ?_
  refine OpJ.callV hrk (fun _ _ => rfl) rfl rfl rfl ?_
  (repeat (first | refine Spl.t rfl ?_ | refine Spl.f rfl ?_))
  by_cases h1 : k < 0
  · have e : curAt (rowE l) k = (⟨0, 0⟩, 2) := (if_neg (by omega)).trans (if_neg (by omega))
    rw [e]
    refine Spl.t (decide_eq_true h1) ?_
    (repeat (first | refine Spl.t rfl ?_ | refine Spl.f rfl ?_))
    exact FinP.open rfl rfl
  · refine Spl.f (decide_eq_false h1) ?_
    (repeat (first | refine Spl.t rfl ?_ | refine Spl.f rfl ?_))
    by_cases h2 : k > liveL (rowE l)
    · have e : curAt (rowE l) k = (⟨0, 0⟩, 2) := (if_neg (by omega)).trans (if_neg (by omega))
      rw [e]
      refine Spl.t (decide_eq_true h2) ?_
      (repeat (first | refine Spl.t rfl ?_ | refine Spl.f rfl ?_))
      exact FinP.open rfl rfl
    · refine Spl.f (decide_eq_false h2) ?_
      (repeat (first | refine Spl.t rfl ?_ | refine Spl.f rfl ?_))
      by_cases h3 : k = liveL (rowE l)
      · have e : curAt (rowE l) k = (⟨0, 0⟩, 0) := if_pos h3
        rw [e]
        refine Spl.t (decide_eq_true h3) ?_
        (repeat (first | refine Spl.t rfl ?_ | refine Spl.f rfl ?_))
        exact FinP.open rfl rfl
      · have hk3 : 0 ≤ k ∧ k < liveL (rowE l) := by omega
        have e : curAt (rowE l) k = (nameL (rowE l) k, 0) := (if_neg h3).trans (if_pos hk3)
        have e2 := rsel_eq (rowE l) k.toNat (by omega)
        rw [Int.toNat_of_nonneg hk3.1, if_pos (by omega)] at e2
        have hlt := sel_lt (rowE l) k.toNat (by omega)
        have hx : (rowE l)[selL k.toNat (rowE l)]? = some (rowE l)[selL k.toNat (rowE l)] := by simp
        have e3 : nameL (rowE l) k = (rowE l)[selL k.toNat (rowE l)].id := by unfold nameL; rw [if_pos hk3, hx]; rfl
        rw [e2] at hsl
        rw [e, e3]
        generalize (rowE l)[selL k.toNat (rowE l)] = x at hx ⊢
        generalize selL k.toNat (rowE l) = n at hx hlt hsl
        refine Spl.f (decide_eq_false h3) ?_
        (repeat (first | refine Spl.t rfl ?_ | refine Spl.f rfl ?_))
        refine OpJ.callV hsl (fun _ _ => rfl) rfl rfl rfl ?_
        refine IdxP.of (elD x) (by omega) (by simp [hx]) ?_
        (repeat (first | refine Spl.t rfl ?_ | refine Spl.f rfl ?_))
        exact FinP.open rfl rfl
theorem RCResolve_c {l : List OP} (h : Dn l) (R : List OP) (a : ID) : Cv 32 [rvv l R, idv a] (.tup [iv (resC (rowE l) a).1, iv (resC (rowE l) a).2]) := by
  have hli := RList8_c h R
  have hlr := row_le h
  have hrk := RRank_c (rowE l) ((rowE l).map elD).length (by omega)
  have hpl := RPlace_c (rowE l) a (by omega)
  have hrp := RRank_c (rowE l) (placeL a (rowE l)) (by omega)
  rw [all_live] at hrk
  refine Ct.of_vc Tryz.f32 Tryz.func32 rfl rfl fun w H B g0 => ?_
  refine OpJ.callV hli (fun _ _ => rfl) rfl rfl rfl ?_
  (repeat (first | refine Spl.t rfl ?_ | refine Spl.f rfl ?_))
  refine OpJ.qu (O.eqT 3 rfl rfl rfl rfl rfl eqR_ok eqR_g (eqR a ⟨0, 0⟩)) rfl ?_
  cases h1 : noneI a with
  | true =>
    have e : resC (rowE l) a = (((liveL (rowE l) : Nat) : Int), 0) := if_pos h1
    rw [e]
    refine Spl.t ((none_iff a).trans h1) ?_
    (repeat (first | refine Spl.t rfl ?_ | refine Spl.f rfl ?_))
    refine OpJ.callV hrk (fun _ _ => rfl) rfl rfl rfl ?_
    exact FinP.open rfl rfl
  | false =>
    refine Spl.f ((none_iff a).trans h1) ?_
    (repeat (first | refine Spl.t rfl ?_ | refine Spl.f rfl ?_))
    refine OpJ.callV hpl (fun _ _ => rfl) rfl rfl rfl ?_
    (repeat (first | refine Spl.t rfl ?_ | refine Spl.f rfl ?_))
    by_cases h2 : 0 ≤ placeL a (rowE l)
    · have e : resC (rowE l) a = (((rankL (rowE l) (placeL a (rowE l)) : Nat) : Int), 0) := (if_neg (by rw [h1]; exact Bool.false_ne_true)).trans (if_pos h2)
      rw [e]
      refine Spl.f (decide_eq_false (by omega)) ?_
      (repeat (first | refine Spl.t rfl ?_ | refine Spl.f rfl ?_))
      refine OpJ.callV hrp (fun _ _ => rfl) rfl rfl rfl ?_
      exact FinP.open rfl rfl
    · have e : resC (rowE l) a = (0, 6) := (if_neg (by rw [h1]; exact Bool.false_ne_true)).trans (if_neg h2)
      rw [e]
      refine Spl.t (decide_eq_true (by omega)) ?_
      (repeat (first | refine Spl.t rfl ?_ | refine Spl.f rfl ?_))
      exact FinP.open rfl rfl
theorem RCMove_c {l : List OP} (h : Dn l) (R : List OP) (a : ID) (by_ : Int) (hb0 : -9223372036854775808 ≤ by_) (hb1 : by_ ≤ 9223372036854775807) : Cv 35 [rvv l R, idv a, iv by_] (.tup [idv (movC (rowE l) a by_).1, iv (movC (rowE l) a by_).2]) := by
  have hr := RCResolve_c h R a
  have hrg := resC_rng (rowE l) a
  have hlr := row_le h
  have hlv := live_le (rowE l)
  have hm : movC (rowE l) a by_ = if (resC (rowE l) a).2 ≠ 0 then (⟨0, 0⟩, (resC (rowE l) a).2) else if by_ > liveL (rowE l) - (resC (rowE l) a).1 ∨ by_ < -(resC (rowE l) a).1 then (⟨0, 0⟩, 2) else curAt (rowE l) ((resC (rowE l) a).1 + by_) := rfl
  have hat := RCAt_c h R
  generalize resC (rowE l) a = p at hr hrg hm
  obtain ⟨n, e⟩ := p
  simp only at hr hrg hm
  have hout : (by_ > liveL (rowE l) - n ∨ by_ < -n) → curAt (rowE l) (n + by_) = (⟨0, 0⟩, 2) := fun h => (if_neg (by omega)).trans (if_neg (by omega))
  generalize movC (rowE l) a by_ = m at *
  refine Ct.of_vc Tryz.f35 Tryz.func35 rfl rfl fun w H B g0 => ?_
  refine OpJ.callV hr (fun _ _ => rfl) rfl rfl rfl ?_
  (repeat (first | refine Spl.t rfl ?_ | refine Spl.f rfl ?_))
  by_cases h1 : e ≠ 0
  · rw [if_pos h1] at hm
    subst hm
    refine Spl.t (by simpa using h1) ?_
    (repeat (first | refine Spl.t rfl ?_ | refine Spl.f rfl ?_))
    exact FinP.open rfl rfl
  · rw [if_neg h1] at hm
    refine Spl.f (by simpa using h1) ?_
    (repeat (first | refine Spl.t rfl ?_ | refine Spl.f rfl ?_))
    by_cases h2 : by_ > 10000
    · rw [if_pos (.inl (by omega))] at hm
      subst hm
      refine Spl.t (decide_eq_true h2) ?_
      (repeat (first | refine Spl.t rfl ?_ | refine Spl.f rfl ?_))
      exact FinP.open rfl rfl
    · refine Spl.f (decide_eq_false h2) ?_
      (repeat (first | refine Spl.t rfl ?_ | refine Spl.f rfl ?_))
      by_cases h3 : by_ < -10000
      · rw [if_pos (.inr (by omega))] at hm
        subst hm
        refine Spl.t (decide_eq_true h3) ?_
        (repeat (first | refine Spl.t rfl ?_ | refine Spl.f rfl ?_))
        exact FinP.open rfl rfl
      · refine Spl.f (decide_eq_false h3) ?_
        have hm2 : m = curAt (rowE l) (n + by_) := by
          rw [hm]; split
          · next h => exact (hout h).symm
          · rfl
        have w3 : IntKind.i64.wrap (n + by_) = n + by_ := wrap_id _ (by omega) (by omega)
        have hat := hat (n + by_) (by omega)
        rw [← w3] at hat hm2
        rw [← hm2] at hat
        (repeat (first | refine Spl.t rfl ?_ | refine Spl.f rfl ?_))
        refine OpJ.callV hat (fun _ _ => rfl) rfl rfl rfl ?_
        (repeat (first | refine Spl.t rfl ?_ | refine Spl.f rfl ?_))
        exact FinP.open rfl rfl
theorem RCAlive_c {l : List OP} (h : Dn l) (R : List OP) (a : ID) : Cv 33 [rvv l R, idv a] (bv (aliveC (rowE l) a)) := by
  have hli := RList8_c h R
  have hlr := row_le h
  have hpl := RPlace_c (rowE l) a (by omega)
  refine Ct.of_vc Tryz.f33 Tryz.func33 rfl rfl fun w H B g0 => ?_
  refine OpJ.callV hli (fun _ _ => rfl) rfl rfl rfl ?_
  (repeat (first | refine Spl.t rfl ?_ | refine Spl.f rfl ?_))
  refine OpJ.qu (O.eqT 3 rfl rfl rfl rfl rfl eqR_ok eqR_g (eqR a ⟨0, 0⟩)) rfl ?_
  cases h1 : noneI a with
  | true =>
    have e : aliveC (rowE l) a = true := by unfold aliveC; rw [h1]; rfl
    rw [e]
    refine Spl.t ((none_iff a).trans h1) ?_
    (repeat (first | refine Spl.t rfl ?_ | refine Spl.f rfl ?_))
    exact FinP.open rfl rfl
  | false =>
    refine Spl.f ((none_iff a).trans h1) ?_
    (repeat (first | refine Spl.t rfl ?_ | refine Spl.f rfl ?_))
    refine OpJ.callV hpl (fun _ _ => rfl) rfl rfl rfl ?_
    (repeat (first | refine Spl.t rfl ?_ | refine Spl.f rfl ?_))
    by_cases h2 : 0 ≤ placeL a (rowE l)
    · have e : aliveC (rowE l) a = !((rowE l)[(placeL a (rowE l)).toNat]?.getD EL0).dead := by unfold aliveC; rw [h1, decide_eq_true h2]; rfl
      obtain ⟨x, g1, _, _⟩ := placeL_get h2
      rw [g1] at e
      rw [e]
      obtain ⟨n, hn⟩ : ∃ n : Nat, placeL a (rowE l) = n := ⟨(placeL a (rowE l)).toNat, by omega⟩
      rw [hn] at g1 h2
      rw [Int.toNat_natCast] at g1
      rw [hn]
      have hlt := (List.getElem?_eq_some_iff.1 g1).1
      refine Spl.t (decide_eq_true h2) ?_
      (repeat (first | refine Spl.t rfl ?_ | refine Spl.f rfl ?_))
      refine IdxP.of (elD x) (by omega) (by simp [g1]) ?_
      (repeat (first | refine Spl.t rfl ?_ | refine Spl.f rfl ?_))
      exact FinP.open rfl rfl
    · have e : aliveC (rowE l) a = false := by unfold aliveC; rw [h1, decide_eq_false h2]; rfl
      rw [e]
      refine Spl.f (decide_eq_false h2) ?_
      (repeat (first | refine Spl.t rfl ?_ | refine Spl.f rfl ?_))
      exact FinP.open rfl rfl
/-! ### The law's versions -/
def playA (acts : List ACT) : VS := acts.foldl (fun v x => ⟨(doV v x).s, (doV v x).l, (doV v x).R, []⟩) vA0
theorem play_snoc (acts : List ACT) (x : ACT) : playA (acts ++ [x]) = ⟨(doV (playA acts) x).s, (doV (playA acts) x).l, (doV (playA acts) x).R, []⟩ := by unfold playA; rw [List.foldl_append]; rfl
theorem play_ok (acts : List ACT) : okV (playA acts) ∧ (playA acts).out = [] := by
  unfold playA
  have : ∀ (l : List ACT) (v : VS), okV v → v.out = [] → okV (l.foldl (fun v x => ⟨(doV v x).s, (doV v x).l, (doV v x).R, []⟩) v) ∧ (l.foldl (fun v x => ⟨(doV v x).s, (doV v x).l, (doV v x).R, []⟩) v).out = [] := fun l => by
    induction l with
    | nil => exact fun v h1 h2 => ⟨h1, h2⟩
    | cons x l ih => exact fun v h1 h2 => ih _ (h1.act x).out rfl
  exact this acts vA0 okA0 rfl
theorem played_c (acts : List ACT) (hn : acts.length ≤ 1000) (hacts : ∀ x, x ∈ acts → okAct x) : Cv 27 [.d (.sl 10 (acts.map actD))] (.tup [vv (playA acts).s (playA acts).l (playA acts).R, rvv (playA acts).l (playA acts).R, bv true]) := by
  refine Ct.of_wv Tryz.f27 Tryz.func27 rfl rfl fun w H B g0 => ?_
  try refine WJ.cut ?_
  (first | refine Sq.go ?_ | refine vL_nil (Sq.go ?_) | skip)
  try refine WJ.cut ?_
  (first | refine Sq.go ?_ | refine vL_nil (Sq.go ?_) | skip)
  refine WJ.shift (SJ.viewCell 5 3 rfl rfl fun _ _ _ h => nil_sl 6 h) ?_
  try refine WJ.cut ?_
  (first | refine Sq.go ?_ | refine vL_nil (Sq.go ?_) | skip)
  refine WJ.shift (SJ.viewCell 6 0 rfl rfl fun _ _ _ h => nil_sl 6 h) ?_
  refine WJ.shift (SJ.viewCell 6 1 rfl rfl fun _ _ _ h => nil_sl 6 h) ?_
  try refine WJ.cut ?_
  refine WJ.loopK (V := Nat × VS) (fun v => [(12, iv v.1)]) (fun v => [(5, .cells (vcs v.2.s v.2.l v.2.R)), (6, .cells [.d (.sl 6 (v.2.l.map opD)), .d (.sl 6 (v.2.R.map opD))])]) [5, 6] (fun v => acts.length - v.1) (fun v => v.1 ≤ acts.length ∧ v.2 = playA (acts.take v.1)) (0, vA0) ⟨by simp, rfl⟩ (by repeat' (first | exact trivial | exact rfl | refine And.intro ?_ ?_)) (by repeat' (first | exact trivial | exact rfl | refine And.intro ?_ ?_)) ?_
  rintro ⟨i, v⟩ ⟨hi, hpl⟩
  simp only at hi hpl
  obtain ⟨hv, ho⟩ := play_ok (acts.take i)
  rw [← hpl] at hv ho
  refine Spl.of (fun h1 => ?_) (fun h1 => ?_)
  · have hlt : i < acts.length := by have := of_decide_eq_true h1; simp at this; omega
    have hx : acts[i]? = some acts[i] := by simp
    have hax := hacts _ (List.getElem_mem hlt)
    have hsn := play_snoc (acts.take i) acts[i]
    rw [← take_snoc hx, ← hpl] at hsn
    generalize acts[i] = x at hx hax hsn
    obtain ⟨s, l, R, out⟩ := v
    simp only at ho
    subst ho
    have hdo := Do8_c hv x hax.1.2
    generalize doV ⟨s, l, R, []⟩ x = v at hdo hsn
    (repeat (first | refine Spl.t rfl ?_ | refine Spl.f rfl ?_))
    refine IdxP.of (actD x) (by omega) (by simp [hx]) ?_
    (repeat (first | refine Spl.t rfl ?_ | refine Spl.f rfl ?_))
    refine OpJ.callV hdo (fun _ _ => rfl) rfl rfl rfl ?_
    (repeat (first | refine Spl.t rfl ?_ | refine Spl.f rfl ?_))
    exact ⟨(i + 1, ⟨v.s, v.l, v.R, []⟩), ⟨by simp only; omega, hsn.symm⟩, by simp only; omega, ⟨some_iv (wrap_id _ (by omega) (by omega)), trivial⟩, (by repeat' (first | exact trivial | exact rfl | refine And.intro ?_ ?_)), (by repeat' (first | exact trivial | exact rfl | refine And.intro ?_ ?_)), (by repeat' (first | exact trivial | exact rfl | refine And.intro ?_ ?_))⟩
  · have hie : i = acts.length := by have := of_decide_eq_false h1; simp at this; omega
    subst hie
    rw [List.take_length] at hpl
    rw [← hpl]
    (repeat (first | refine Spl.t rfl ?_ | refine Spl.f rfl ?_))
    (first | refine Sq.go ?_ | refine vL_nil (Sq.go ?_) | skip)
    try refine vc_sound _ _ _ _ ?_
    refine RegP.mixS 5 [2, 3] rfl (by decide +kernel) ?_
    exact FinP.open rfl rfl
end Go.Proofs.E
end
section
namespace Go.Gv
open Go.RowKit
def newF (F : Nat → Option (Nat × Ent × Ent)) (k : Nat) : Option (Nat × Ent) := match F k with
  | some (i, _, f) => some (i, f)
  | none => none
theorem newF_some {F : Nat → Option (Nat × Ent × Ent)} {k x : Nat} {f : Ent} (h : newF F k = some (x, f)) : ∃ e, F k = some (x, e, f) := by
  unfold newF at h
  split at h
  · next i e f' hF => cases h; exact ⟨e, hF⟩
  · cases h
theorem bornAt_un {E : Nat → Option (Nat × Ent)} {S : Nat → Bool} {σ : Sg} {x m : Nat} (hn : ∀ i y e, i < m → S i = true → E i = some (y, e) → y ≠ x) : ∀ k, k ≤ m → look x (bornAt E S σ k) = look x σ
  | 0, _ => rfl
  | k + 1, hk => by
    have ih := bornAt_un (σ := σ) hn k (by omega)
    simp only [bornAt]
    cases hE : E k with
    | none => exact ih
    | some q =>
      simp only
      split
      · next hs =>
        obtain ⟨y, f⟩ := q
        rw [look_cons, if_neg (fun h => hn k y f (by omega) hs hE h.symm)]
        exact ih
      · exact ih
theorem bornAt_step {E : Nat → Option (Nat × Ent)} {S : Nat → Bool} {σ : Sg} (hd : ∀ i j x e f, E i = some (x, e) → E j = some (x, f) → i = j) {i x : Nat} {f : Ent} (hE : E i = some (x, f)) {y : Nat} :
    ∀ k, i < k → look y (bornAt E (fun j => if j = i then true else S j) σ k) = if y = x then some f else look y (bornAt E S σ k) := by
  have same : ∀ k, k ≤ i → bornAt E (fun j => if j = i then true else S j) σ k = bornAt E S σ k := fun k hk => bornAt_congr k fun j hj _ => if_neg (by omega)
  intro k
  induction k with
  | zero => intro h; omega
  | succ k ih =>
    intro h
    by_cases hik : i = k
    · subst hik
      simp only [bornAt, hE, if_true, look_cons]
      rw [same i (Nat.le_refl _)]
      by_cases hy : y = x
      · rw [if_pos hy, if_pos hy]
      · rw [if_neg hy, if_neg hy]
        split
        · rw [look_cons, if_neg hy]
        · rfl
    · have ih := ih (by omega)
      simp only [bornAt]
      cases hF : E k with
      | none => exact ih
      | some q =>
        obtain ⟨z, f'⟩ := q
        have hz : z ≠ x := fun h => hik (by subst h; exact hd i k _ _ _ hE hF)
        have hki : (if k = i then true else S k) = S k := if_neg (fun h => hik h.symm)
        simp only [hki]
        split
        · rw [look_cons, look_cons]
          by_cases hy : y = z
          · rw [if_pos hy, if_pos hy, if_neg (fun h => hz (hy.symm.trans h))]
          · rw [if_neg hy, if_neg hy]; exact ih
        · exact ih
def TStep (X : Cx) (all : Array Oper) (o : Oper) (t : T) (σ : Sg) (V : AV) (E : Option (Nat × Ent)) (F : Option (Nat × Ent × Ent)) : Prop :=
  (E = none ∧ F = none ∧ OStep X all o t σ V) ∨ (∃ id e, E = some (id, e) ∧ F = none ∧ o.guard = none ∧ BirthJ X o t σ id V e) ∨ (∃ id e f, E = none ∧ F = some (id, e, f) ∧ StoreJ X o t id e f)
theorem calm_anyT {X : Cx} {all : Array Oper} {m : Nat} {t0 : T} {σ σq : Sg} {V : Nat → AV} {E : Nat → Option (Nat × Ent)} {F : Nat → Option (Nat × Ent × Ent)} {Q' : Exit → Act → World → Prop} (hc : CalmR all m) (hm : m ≤ all.size)
    (hσ : Wk σq σ) (hstep : ∀ i o, i < m → all[i]? = some o → TStep X all o (states all V t0 i) σq (V i) (E i) (F i) ∧ dOk o.dst X.N = true)
    (hEm : ∀ i, m ≤ i → E i = none) (hFm : ∀ i, m ≤ i → F i = none)
    (hfr : ∀ i id e, E i = some (id, e) → isFresh id t0 σ X.pin = true ∧ (∀ j x, j < m → j ≠ i → dstAt all j = some x → has2 id (V j) = false) ∧ (∀ j id' e', j ≠ i → E j = some (id', e') → id' ≠ id ∧ entHas id e' = false) ∧
      ∀ j x e' f, F j = some (x, e', f) → (∀ o, all[j]? = some o → edge o i = true) ∨ (x ≠ id ∧ entHas id f = false))
    (hds : ∀ i j x e f e' f', F i = some (x, e, f) → F j = some (x, e', f') → i = j)
    (hout : ∀ i x e f, F i = some (x, e, f) → look x σq = none ∧ ((look x σ = some e ∧ ∀ j id e', E j = some (id, e') → id ≠ x) ∨ ∃ b, b < m ∧ E b = some (x, e) ∧ ∀ o, all[i]? = some o → edge o b = true))
    (hend : ∀ γ H a w listed, St X γ H (states all V t0 m) (bornAt (newF F) (fun _ => true) (bornAt E (fun _ => true) σ m) m) a w → listed.size = all.size → (∀ j, j < all.size → listed.getD j false = decide (j < m)) → wpAnyIn (Fr X.ro) 0 X.P .any all Q' (all.size - m) listed a w) :
    ∀ (fuel : Nat) (listed : Array Bool) (γ : Ids) (H : HF) (a : Act) (w : World), listed.size = all.size →
      (∀ j, m ≤ j → listed.getD j false = false) → (∀ i o, listed.getD i false = true → all[i]? = some o → ∀ e, e ∈ o.after → Region.binds .any e = true → listed.getD e.on false = true) →
      ((List.range m).filter fun j => !listed.getD j false).length + (all.size - m) = fuel →
      TabOk γ H (tabAt all V t0 (fun j => listed.getD j false) m) a.tmps → St X γ H [] (bornAt (newF F) (fun j => listed.getD j false) (bornAt E (fun j => listed.getD j false) σ m) m) a w →
      wpAnyIn (Fr X.ro) 0 X.P .any all Q' fuel listed a w := by
  intro fuel
  induction fuel with
  | zero =>
    intro listed γ H a w hs htail hclosed hcount htab sst
    have hall : ∀ j, j < m → listed.getD j false = true := fun j hj => by
      have h0 : ((List.range m).filter fun j => !listed.getD j false) = [] := List.length_eq_zero_iff.1 (by omega)
      have := List.filter_eq_nil_iff.1 h0 j (List.mem_range.2 hj)
      simpa using this
    have hmn : m = all.size := by omega
    have hst : St X γ H (states all V t0 m) (bornAt (newF F) (fun _ => true) (bornAt E (fun _ => true) σ m) m) a w := St.withT (by have h9 := sst; rw [bornAt_congr (E := newF F) (S' := fun _ => true) m (fun j hj _ => hall j hj), bornAt_congr (E := E) (S' := fun _ => true) m (fun j hj _ => hall j hj)] at h9; exact h9) (fun i b hi => htab i b (by
      rw [look_states] at hi
      rw [← hi]
      simp only [tabAt]
      rw [lastW_congr m (fun j hj _ => hall j hj)]))
    have := hend γ H a w listed hst hs (fun j hj => by rw [hall j (by omega)]; simp; omega)
    rw [show all.size - m = 0 from by omega] at this; exact this
  | succ fuel ih =>
    intro listed γ H a w hs htail hclosed hcount htab sst
    by_cases hall : ∀ j, j < m → listed.getD j false = true
    · -- the calm part is over
      have hst : St X γ H (states all V t0 m) (bornAt (newF F) (fun _ => true) (bornAt E (fun _ => true) σ m) m) a w := St.withT (by have h9 := sst; rw [bornAt_congr (E := newF F) (S' := fun _ => true) m (fun j hj _ => hall j hj), bornAt_congr (E := E) (S' := fun _ => true) m (fun j hj _ => hall j hj)] at h9; exact h9) (fun i b hi => htab i b (by
        rw [look_states] at hi
        rw [← hi]
        simp only [tabAt]
        rw [lastW_congr m (fun j hj _ => hall j hj)]))
      have h0 : ((List.range m).filter fun j => !listed.getD j false) = [] := List.filter_eq_nil_iff.2 fun j hj => by simp only [hall j (List.mem_range.1 hj)]; simp
      rw [h0] at hcount
      simp only [List.length_nil, Nat.zero_add] at hcount
      have := hend γ H a w listed hst hs (fun j hj => by
        by_cases hj' : j < m
        · rw [hall j hj']; simp [hj']
        · rw [htail j (by omega)]; simp; omega)
      rw [hcount] at this
      exact this
    · refine ⟨fun hn => ?_, fun i hi => ?_⟩
      · -- the least that is not listed is ready
        exfalso
        have hex : ∃ j, j < m ∧ listed.getD j false = false := by
          refine Classical.byContradiction fun hno => hall fun j hj => ?_
          cases hx : listed.getD j false with
          | true => rfl
          | false => exact absurd ⟨j, hj, hx⟩ hno
        have hmin : ∃ j, j < m ∧ listed.getD j false = false ∧ ∀ i, i < j → listed.getD i false = true := by
          obtain ⟨j, hj⟩ := hex
          induction j using Nat.strongRecOn with
          | _ j ihj =>
            by_cases hlow : ∀ i, i < j → listed.getD i false = true
            · exact ⟨j, hj.1, hj.2, hlow⟩
            · have : ∃ i, i < j ∧ listed.getD i false = false := by
                refine Classical.byContradiction fun hno => hlow fun i hi => ?_
                cases hx : listed.getD i false with
                | true => rfl
                | false => exact absurd ⟨i, hi, hx⟩ hno
              obtain ⟨i, hi, hx⟩ := this
              exact ihj i hi ⟨by omega, hx⟩
        obtain ⟨j, hj, hjl, hlow⟩ := hmin
        have hjn : j < all.size := by omega
        have hmem' : j ∈ Region.ready .any all listed := by
          rw [mem_ready]
          refine ⟨?_, all[j], by simp [hjn], fun e he hb => hlow _ (hc.back j all[j] (by simp [hjn]) e he hb)⟩
          rw [Array.getD_eq_getD_getElem?] at hjl ⊢
          rw [Array.getElem?_eq_getElem (by omega)] at hjl ⊢
          simpa using hjl
        rw [hn] at hmem'; cases hmem'
      · obtain ⟨h1, o, ho, h2⟩ := ready_sound hi
        obtain ⟨hil, hif⟩ := getD_of h1
        have hin : i < all.size := (Array.getElem?_eq_some_iff.1 ho).1
        have him : i < m := by
          refine Classical.byContradiction fun hge => hall fun j hj => ?_
          exact anc_listed hclosed (hc.tail i o ho (by omega) j hj) ho h2
        -- who writes what i names: listed just if it stands ahead
        have hwr : ∀ x, namesT all o x = true → ∀ j, j < m → dstAt all j = some x → listed.getD j false = decide (j < i) := by
          intro x hx j hj hd'
          cases hp : all[j]? with
          | none => simp [dstAt, hp] at hd'
          | some p =>
            simp only [dstAt, hp, Option.bind_some] at hd'
            by_cases hji : j < i
            · rcases hc.names i o (by omega) ho j p hji hp with h3 | ⟨h3, _⟩
              · rw [edge_listed h3 h2]; simp [hji]
              · rw [h3 x hd'] at hx; cases hx
            · by_cases e : j = i
              · subst e; rw [hif]; simp
              · rcases hc.names j p (by omega) hp i o (by omega) ho with h3 | ⟨_, h3⟩
                · cases hlj : listed.getD j false with
                  | false => simp; omega
                  | true =>
                    have := edge_listed h3 (hclosed j p hlj hp)
                    rw [hif] at this; cases this
                · rw [h3 x hd'] at hx; cases hx
        have htab_i : ∀ x, namesT all o x = true → tabAt all V t0 (fun j => listed.getD j false) m x = look x (states all V t0 i) := by
          intro x hx
          rw [look_states]
          simp only [tabAt]
          rw [lastW_congr m (fun j hj hd' => hwr x hx j hj hd'), lastW_top m (by omega)]
        have hopnd : ∀ x, x ∈ o.op.operands → ∀ v, ge (states all V t0 i) x = some v → Rep γ H v (a.eval x) := by
          intro x hx v hv
          cases x with
          | tmp y =>
            have hy : namesT all o y = true := by
              simp only [namesT, Bool.or_eq_true]
              exact .inl (.inr (List.any_eq_true.2 ⟨_, Array.mem_toList_iff.2 hx, by simp [hasT]⟩))
            obtain ⟨u, hu, hr⟩ := htab y v (by rw [htab_i y hy]; exact hv)
            simp only [Act.eval, Array.getD_eq_getD_getElem?, hu, Option.getD_some]
            exact hr
          | const c => simp only [ge, Option.some.injEq] at hv; subst hv; exact rep_const γ H c
          | func f => simp only [ge, Option.some.injEq] at hv; subst hv; exact .d _ _ (.fn f [] [] rfl (fun j a u h1 => by simp at h1))
          | global g => simp [ge] at hv
        obtain ⟨hos, hdok⟩ := hstep i o him ho
        -- how many are left
        have hleft : ((List.range m).filter fun j => !(listed.setIfInBounds i true).getD j false).length + (all.size - m) = fuel := by
          have hf : ((List.range m).filter fun j => !listed.getD j false).length = ((List.range m).filter fun j => !(listed.setIfInBounds i true).getD j false).length + 1 := by
            have h5 : ∀ (l : List Nat), l.Nodup → i ∈ l → (l.filter fun j => !listed.getD j false).length = (l.filter fun j => !(listed.setIfInBounds i true).getD j false).length + 1 := by
              intro l
              induction l with
              | nil => intro _ h; cases h
              | cons b l ihl =>
                intro hnd hmem'
                rw [List.nodup_cons] at hnd
                by_cases e : i = b
                · subst e
                  have h6 : (listed.setIfInBounds i true).getD i false = true := by
                    rw [Array.getD_eq_getD_getElem?]; simp [hil]
                  have h7 : (l.filter fun j => !listed.getD j false) = (l.filter fun j => !(listed.setIfInBounds i true).getD j false) := by
                    refine List.filter_congr fun j hj => ?_
                    have hne : i ≠ j := fun e => hnd.1 (e ▸ hj)
                    rw [getD_set_ne false hne]
                  simp only [List.filter_cons, hif, h6, Bool.not_false, Bool.not_true, if_true, h7, List.length_cons, Bool.false_eq_true, if_false]
                · have h6 := getD_set_ne (listed := listed) false e
                  have h7 := ihl hnd.2 (by rcases List.mem_cons.1 hmem' with h | h; exact absurd h e; exact h)
                  simp only [List.filter_cons, h6]
                  split <;> simp only [List.length_cons, h7]
            exact h5 _ List.nodup_range (List.mem_range.2 him)
          omega
        have hclosed' : ∀ j p, (listed.setIfInBounds i true).getD j false = true → all[j]? = some p → ∀ e, e ∈ p.after → Region.binds .any e = true → (listed.setIfInBounds i true).getD e.on false = true := fun j p hj hp e he hb => by
          by_cases e' : i = j
          · subst e'
            rw [ho] at hp; simp only [Option.some.injEq] at hp; subst hp
            exact getD_set_true (h2 e he hb)
          · rw [getD_set_ne false e'] at hj
            exact getD_set_true (hclosed j p hj hp e he hb)
        have htail' : ∀ j, m ≤ j → (listed.setIfInBounds i true).getD j false = false := fun j hj => by
          rw [getD_set_ne false (by omega)]; exact htail j hj
        have hset : (fun j => (listed.setIfInBounds i true).getD j false) = fun j => if j = i then true else listed.getD j false := funext fun j => by
          by_cases e : j = i
          · subst e; rw [if_pos rfl, Array.getD_eq_getD_getElem?]; simp [hil]
          · rw [if_neg e, getD_set_ne false (fun h => e h.symm)]
        -- behind a quiet one
        have hnextG : ∀ v γ' H' w', TabOk γ' H' (tabAt all V t0 (fun j => listed.getD j false) m) a.tmps → Rep γ' H' (V i) v →
            St X γ' H' [] (bornAt (newF F) (fun j => (listed.setIfInBounds i true).getD j false) (bornAt E (fun j => (listed.setIfInBounds i true).getD j false) σ m) m) (a.put o.dst v) w' → wpAnyIn (Fr X.ro) 0 X.P .any all Q' fuel (listed.setIfInBounds i true) (a.put o.dst v) w' := by
          intro v γ' H' w' htab' hr sst'
          refine ih _ γ' H' _ w' (by simpa using hs) htail' hclosed' hleft ?_ sst'
          · -- the table
            intro x b hx
            by_cases hxd : o.dst = some x
            · have hlw : tabAt all V t0 (fun j => (listed.setIfInBounds i true).getD j false) m x = some (V i) := by
                have hnx : namesT all o x = true := by simp [namesT, hxd]
                simp only [tabAt]
                have : lastW all (fun j => (listed.setIfInBounds i true).getD j false) x m = lastW all (fun j => decide (j < i + 1)) x m := by
                  refine lastW_congr m fun j hj hd' => ?_
                  by_cases e : i = j
                  · subst e; rw [Array.getD_eq_getD_getElem?]; simp [hil]
                  · show (listed.setIfInBounds i true).getD j false = _
                    rw [getD_set_ne false e, hwr x hnx j hj hd']
                    simp; omega
                rw [this, lastW_top m (by omega)]
                have hda : dstAt all i = some x := by simp [dstAt, ho, hxd]
                simp [lastW, hda]
              rw [hlw] at hx
              simp only [Option.some.injEq] at hx
              subst hx
              have hlt : x < a.tmps.size := by have := sst.size; rw [hxd] at hdok; simp only [dOk, Nat.blt_eq] at hdok; omega
              exact ⟨v, by rw [hxd]; simp [Act.put, hlt], hr⟩
            · have hlw : tabAt all V t0 (fun j => (listed.setIfInBounds i true).getD j false) m x = tabAt all V t0 (fun j => listed.getD j false) m x := by
                simp only [tabAt]
                rw [lastW_congr m fun j hj hd' => ?_]
                have e : i ≠ j := fun e => by subst e; simp [dstAt, ho] at hd'; exact hxd hd'
                exact getD_set_ne false e
              rw [hlw] at hx
              obtain ⟨u, hu, hr'⟩ := htab' x b hx
              refine ⟨u, ?_, hr'⟩
              cases hod : o.dst with
              | none => simpa [Act.put, hod] using hu
              | some d =>
                have hne : d ≠ x := fun e => hxd (by rw [hod, e])
                simp only [Act.put]
                rw [Array.getElem?_setIfInBounds, if_neg hne]; exact hu
        have hnext : E i = none → F i = none → ∀ v γ' σ' H' w', Mem w H (fun _ => False) γ' H' σ' w' → Rep γ H' (V i) v → wpAnyIn (Fr X.ro) 0 X.P .any all Q' fuel (listed.setIfInBounds i true) (a.put o.dst v) w' := by
          intro hE0 hE v γ' σ' H' w' hm' hr
          have sst' : St X γ H' [] (bornAt (newF F) (fun j => (listed.setIfInBounds i true).getD j false) (bornAt E (fun j => (listed.setIfInBounds i true).getD j false) σ m) m) (a.put o.dst v) w' := by
            have h9 := sst.calm (d := o.dst) hm' hdok hr
            rw [bornAt_congr (E := newF F) (S' := fun j => listed.getD j false) m (fun j hj hne => by
              have e' : i ≠ j := fun e => by subst e; exact hne (by simp [newF, hE])
              exact getD_set_ne false e'), bornAt_congr (E := E) (S' := fun j => listed.getD j false) m (fun j hj hne => by
              have e' : i ≠ j := fun e => by subst e; exact hne hE0
              exact getD_set_ne false e')]
            exact h9.wk (Wk.nil _) (Wk.refl _)
          exact hnextG v γ H' w' (fun x b hx => let ⟨u, hu, r⟩ := htab x b hx; ⟨u, hu, r.mono hm'.hle⟩) hr sst'
        have hbE : ∀ x e, look x σ = some e → look x (bornAt E (fun j => listed.getD j false) σ m) = some e := fun x e hx => bornAt_old hx (fun i' y e' hE' => fun hyx => by
          have := (fresh_s (hfr i' y e' hE').1 hx).1
          exact this hyx.symm) m
        have hmemσ : Mem X.w0 X.H0 X.B γ H σq w := sst.mem.wk (fun x e hx => bornAt_old (hbE x e (hσ x e hx)) (fun j y f hF hyx => by
          subst hyx
          obtain ⟨e1, h1⟩ := newF_some hF
          rw [(hout j _ _ _ h1).1] at hx; cases hx) m)
        -- its guard
        have hguard : ∀ j b' d b, o.guard = some (j, b') → ((all[j]?).bind (·.dst)) = some d → look d (states all V t0 i) = some (.d (.v (.bool b))) → yielded all a.tmps j = some b := by
          intro j b' d b hg hd' hl
          have hnd : namesT all o d = true := by simp [namesT, hg, hd']
          obtain ⟨u, hu, hr⟩ := htab d _ (by rw [htab_i d hnd]; exact hl)
          have := rep_v hr
          subst this
          simp [yielded, hd', hu]
        have hguardU : ∀ j b' d, o.guard = some (j, b') → ((all[j]?).bind (·.dst)) = some d → look d (states all V t0 i) = some (.tup []) → yielded all a.tmps j = none := by
          intro j b' d hg hd' hl
          have hnd : namesT all o d = true := by simp [namesT, hg, hd']
          obtain ⟨u, hu, hr⟩ := htab d _ (by rw [htab_i d hnd]; exact hl)
          have := rep_undef_eq hr
          subst this
          simp [yielded, hd', hu, undef]
        unfold wpOpIn
        simp only [ho]
        rcases hos with ⟨hE0, hE, ⟨hg, hq⟩ | ⟨j, b, d, hg, hd', hl, hq⟩ | ⟨j, b, b', d, hg, hd', hl, hne, hV⟩ | ⟨j, b, d, hg, hd', hl, hV⟩⟩ | ⟨id, en, hE0, hE, hg, hnj⟩ | ⟨id, en, en', hE0, hE, hst⟩
        · have hw : Region.wanted o (yielded all a.tmps) = true := by simp [Region.wanted, hg]
          rw [if_pos hw]
          exact ⟨fun _ _ => trivial, hq γ H a w sst.lam hopnd hmemσ _ _ (hnext hE0 hE)⟩
        · have hw : Region.wanted o (yielded all a.tmps) = true := by simp [Region.wanted, hg, hguard j b d b hg hd' hl]
          rw [if_pos hw]
          exact ⟨fun _ _ => trivial, hq γ H a w sst.lam hopnd hmemσ _ _ (hnext hE0 hE)⟩
        · have hw : Region.wanted o (yielded all a.tmps) = false := by simp [Region.wanted, hg, hguard j b d b' hg hd' hl, hne]
          simp only [hw, Bool.false_eq_true, if_false]
          exact ⟨fun _ _ => trivial, hnext hE0 hE undef γ [] H w (sst.mem.refl γ) (by rw [hV]; exact rep_undef)⟩
        · have hw : Region.wanted o (yielded all a.tmps) = false := by simp [Region.wanted, hg, hguardU j b d hg hd' hl]
          simp only [hw, Bool.false_eq_true, if_false]
          exact ⟨fun _ _ => trivial, hnext hE0 hE undef γ [] H w (sst.mem.refl γ) (by rw [hV]; exact rep_undef)⟩
        · have hw : Region.wanted o (yielded all a.tmps) = true := by simp [Region.wanted, hg]
          rw [if_pos hw]
          refine ⟨fun _ _ => trivial, ?_⟩
          obtain ⟨bv, bn, bw, hrun, hmn, hrn⟩ := hnj γ H a w hopnd hmemσ
          rw [show (Fr X.ro).round = X.ro from rfl, hrun, Oper.uponIn_value]
          obtain ⟨f2, f3, f4, f5⟩ := hfr i id _ hE0
          have fS : ∀ j x f, listed.getD j false = true → newF F j = some (x, f) → x ≠ id ∧ entHas id f = false := fun j x f hj hF => by
            obtain ⟨e1, h1⟩ := newF_some hF
            rcases f5 j x e1 f h1 with h6 | h6
            · have hjm : j < m := Nat.lt_of_not_le fun hle => by rw [hFm j hle] at h1; cases h1
              have hjo : all[j]? = some all[j] := by simp [show j < all.size by omega]
              have := edge_listed (h6 _ hjo) (hclosed j _ hj hjo)
              rw [hif] at this; cases this
            · exact h6
          have hfb : isFresh id [] (bornAt (newF F) (fun j => listed.getD j false) (bornAt E (fun j => listed.getD j false) σ m) m) X.pin = true := by
            simp only [isFresh, Bool.and_eq_true, List.all_eq_true] at f2 ⊢
            refine ⟨⟨fun p hp => by simp at hp, fun p hp => ?_⟩, f2.2⟩
            have mk : p.1 ≠ id ∧ entHas id p.2 = false → (!Nat.beq id p.1 && !entHas id p.2) = true := fun ⟨h1, h2⟩ => by
              have : Nat.beq id p.1 = false := by rw [← Bool.not_eq_true, Nat.beq_eq]; exact fun h => h1 h.symm
              simp [this, h2]
            rcases bornAt_mem m hp with h7 | ⟨j, _, h8, h9⟩
            · rcases bornAt_mem m h7 with h7 | ⟨j, _, h8, h9⟩
              · simpa using f2.1.2 p h7
              · obtain ⟨y, f⟩ := p
                have := mk (f4 j y f (fun e => by subst e; rw [hif] at h8; cases h8) h9)
                simpa using this
            · obtain ⟨y, f⟩ := p
              have := mk (fS j y f h8 h9)
              simpa using this
          have hnew := sst.new (d := o.dst) hmn hfb hdok hrn
          refine hnextG _ (upd γ id ⟨w.heap.size, bn, fun _ => False⟩) H _ ?_ ?_ ?_
          · intro x b hx
            obtain ⟨u, hu', r⟩ := htab x b hx
            refine ⟨u, hu', rep_upd r ?_⟩
            simp only [tabAt] at hx
            split at hx
            · next j hj =>
              simp only [Option.some.injEq] at hx; subst hx
              obtain ⟨h7, h8, h9⟩ := lastW_spec m j hj
              exact f3 j x h7 (fun e => by subst e; rw [hif] at h8; cases h8) h9
            · exact fresh_t f2 hx
          · exact hrn
          · refine hnew.wk (Wk.nil _) fun x f hx => ?_
            rw [bornAt_congr (E := newF F) (S' := fun j => listed.getD j false) m (fun j hj hne => by
              have e' : i ≠ j := fun e => by subst e; exact hne (by simp [newF, hE])
              exact getD_set_ne false e')] at hx
            have hdF : ∀ i j x e f, newF F i = some (x, e) → newF F j = some (x, f) → i = j := fun i j x e f h1 h2 => by
              obtain ⟨e1, h1⟩ := newF_some h1
              obtain ⟨e2, h2⟩ := newF_some h2
              exact hds _ _ _ _ _ _ _ h1 h2
            rw [look_cons]
            by_cases hex : ∃ j f1, j < m ∧ listed.getD j false = true ∧ newF F j = some (x, f1)
            · obtain ⟨j, f1, h1, h2, h3⟩ := hex
              rw [bornAt_look hdF m h1 h2 h3] at hx
              cases hx
              rw [if_neg (fS j x f h2 h3).1]
              exact bornAt_look hdF m h1 h2 h3
            · have hno : ∀ j y f, j < m → listed.getD j false = true → newF F j = some (y, f) → y ≠ x := fun j y f h1 h2 h3 e => by subst e; exact hex ⟨j, f, h1, h2, h3⟩
              rw [bornAt_un hno m (Nat.le_refl _)] at hx
              have key : (if x = id then some en else look x (bornAt E (fun j => listed.getD j false) σ m)) = some f := by
                rcases bornAt_lookup m hx with ⟨j, hjm, hj, hEj⟩ | hx
                · by_cases e' : j = i
                  · subst e'
                    rw [hE0] at hEj
                    simp only [Option.some.injEq, Prod.mk.injEq] at hEj
                    rw [if_pos hEj.1.symm, hEj.2]
                  · have hne := (f4 j x f e' hEj).1
                    rw [if_neg hne]
                    refine bornAt_look (fun i1 j1 y e1 e2 h1' h2' => Classical.byContradiction fun hne' => (((hfr i1 y e1 h1').2.2.1 j1 y e2 (fun h => hne' h.symm) h2').1 rfl)) m hjm ?_ hEj
                    rw [getD_set_ne false (fun h => e' h.symm)] at hj; exact hj
                · have hne := (fresh_s f2 hx).1
                  rw [if_neg hne]
                  exact hbE x f hx
              by_cases hxi : x = id
              · rw [if_pos hxi] at key ⊢; exact key
              · rw [if_neg hxi] at key ⊢
                rw [bornAt_un hno m (Nat.le_refl _)]; exact key
        · obtain ⟨hg, hd0, hj⟩ := hst
          have hw : Region.wanted o (yielded all a.tmps) = true := by simp [Region.wanted, hg]
          rw [if_pos hw]
          refine ⟨fun _ _ => trivial, ?_⟩
          -- all temporaries, told as a list
          obtain ⟨tc, htc⟩ : ∃ tc : T, ∀ x, look x tc = tabAt all V t0 (fun j => listed.getD j false) m x := by
            obtain ⟨tc, h5⟩ := listT (fun x => tabAt all V t0 (fun j => listed.getD j false) m x) a.tmps.size
            refine ⟨tc, fun x => ?_⟩
            rw [h5]
            split
            · rfl
            · next hx =>
              cases hv : tabAt all V t0 (fun j => listed.getD j false) m x with
              | none => rfl
              | some b =>
                obtain ⟨u, hu, _⟩ := htab x b hv
                exact absurd (Array.getElem?_eq_some_iff.1 hu).1 hx
          have hsc : St X γ H tc (bornAt (newF F) (fun j => listed.getD j false) (bornAt E (fun j => listed.getD j false) σ m) m) a w := St.withT sst (fun x b hx => htab x b (by rw [← htc]; exact hx))
          have hFi : newF F i = some (id, en') := by simp [newF, hE]
          have hdF : ∀ i j x e f, newF F i = some (x, e) → newF F j = some (x, f) → i = j := fun i j x e f h1 h2 => by
            obtain ⟨e1, h1⟩ := newF_some h1
            obtain ⟨e2, h2⟩ := newF_some h2
            exact hds _ _ _ _ _ _ _ h1 h2
          have hlk : look id (bornAt (newF F) (fun j => listed.getD j false) (bornAt E (fun j => listed.getD j false) σ m) m) = some en := by
            rw [bornAt_un (fun j y f hj hl hF e => by
              subst e
              have := hdF _ _ _ _ _ hFi hF
              subst this
              rw [hif] at hl; cases hl) m (Nat.le_refl _)]
            rcases (hout i id en en' hE).2 with ⟨h1, _⟩ | ⟨b, hb, h1, h3⟩
            · exact hbE id en h1
            · exact bornAt_look (fun i1 j1 y e1 e2 h1' h2' => Classical.byContradiction fun hne' => (((hfr i1 y e1 h1').2.2.1 j1 y e2 (fun h => hne' h.symm) h2').1 rfl)) m hb (edge_listed (h3 o ho) h2) h1
          have key := hj tc (bornAt (newF F) (fun j => listed.getD j false) (bornAt E (fun j => listed.getD j false) σ m) m) (fun x hx v hv => by
            cases x with
            | tmp y =>
              have hy : namesT all o y = true := by
                simp only [namesT, Bool.or_eq_true]
                exact .inl (.inr (List.any_eq_true.2 ⟨_, Array.mem_toList_iff.2 hx, by simp [hasT]⟩))
              show look y tc = some v
              rw [htc, htab_i y hy]; exact hv
            | const c => exact hv
            | func f => exact hv
            | global g => exact hv) hlk
          refine key γ H a w hsc _ _ ?_
          rintro γ' H' t' σ' a' w' s' ⟨rfl, rfl⟩
          refine ih _ γ' H' a' w' (by simpa using hs) htail' hclosed' hleft (fun x b hx => ?_) ?_
          · refine s'.tmp x b ?_
            rw [htc, ← hx]
            simp only [tabAt]
            rw [lastW_congr m fun j hj hd' => ?_]
            have e : i ≠ j := fun e => by subst e; simp [dstAt, ho, hd0] at hd'
            exact (getD_set_ne false e).symm
          · have hb0 : bornAt E (fun j => (listed.setIfInBounds i true).getD j false) σ m = bornAt E (fun j => listed.getD j false) σ m := bornAt_congr m (fun j hj hne => by
              have e' : i ≠ j := fun e => by subst e; exact hne hE0
              exact getD_set_ne false e')
            rw [hb0, hset]
            refine s'.wk (Wk.nil _) fun x e hx => ?_
            rw [bornAt_step hdF hFi m him] at hx
            rw [look_cons]; exact hx

abbrev Bs := List (Nat × Nat × Ent)
def bsS (bs : Bs) : Sg := bs.map fun p => p.2
/-- The region's operations, in their order; k: the number of the next. -/
def CT (X : Cx) (all : Array Oper) (σ0 σ : Sg) (Q : T → Sg → Prop) : List Oper → Nat → T → Bs → Sg → Prop
  | [], _, t, bs, ss => ∃ t', Wk t' t ∧ Q t' (ss ++ bsS bs)
  | o :: rest, k, t, bs, ss =>
    (∃ V, OStep X all o t σ V ∧ dOk o.dst X.N = true ∧ (∀ p, p ∈ bs → has2 p.2.1 V = false) ∧ CT X all σ0 σ Q rest (k + 1) (putT o.dst V t) bs ss) ∨
    (∃ id V e, o.dst = some id ∧ o.guard = none ∧ BirthJ X o t σ id V e ∧ dOk (some id) X.N = true ∧ isFresh id t (ss ++ (bsS bs ++ σ0)) X.pin = true ∧
      (∀ p, p ∈ bs → entHas p.2.1 e = false ∧ has2 p.2.1 V = false) ∧ CT X all σ0 σ Q rest (k + 1) ((id, V) :: t) ((k, id, e) :: bs) ss) ∨
    (∃ x e f, StoreJ X o t x e f ∧ look x σ = none ∧ look x ss = none ∧ ((look x σ0 = some e ∧ ∀ p, p ∈ bs → p.2.1 ≠ x) ∨ (∃ b, (b, x, e) ∈ bs ∧ edge o b = true)) ∧
      (∀ p, p ∈ bs → edge o p.1 = true ∨ (x ≠ p.2.1 ∧ entHas p.2.1 f = false)) ∧ CT X all σ0 σ Q rest (k + 1) t bs ((x, f) :: ss))
structure TTab (X : Cx) (all : Array Oper) (σ0 σ : Sg) (Q : T → Sg → Prop) (n k : Nat) (t : T) (bs : Bs) (ss : Sg) (V : Nat → AV) (E : Nat → Option (Nat × Ent)) (F : Nat → Option (Nat × Ent × Ent)) : Prop where
  step : ∀ j o, j < n → all[k + j]? = some o → TStep X all o (statesFrom all V t k j) σ (V (k + j)) (E (k + j)) (F (k + j)) ∧ dOk o.dst X.N = true
  fin : ∃ t', Wk t' (statesFrom all V t k n) ∧ Q t' (sFrom F k ss n ++ bornFrom E k (bsS bs) n)
  fresh : ∀ j id e, j < n → E (k + j) = some (id, e) → isFresh id t (ss ++ (bsS bs ++ σ0)) X.pin = true
  ev : ∀ j j' x id e, j < n → j' < n → j' ≠ j → E (k + j) = some (id, e) → dstAt all (k + j') = some x → has2 id (V (k + j')) = false
  ee : ∀ j j' id e id' e', j < n → j' < n → j' ≠ j → E (k + j) = some (id, e) → E (k + j') = some (id', e') → id' ≠ id ∧ entHas id e' = false
  ef : ∀ j j' id e x e' f, j < n → j' < n → E (k + j) = some (id, e) → F (k + j') = some (x, e', f) → (∀ o, all[k + j']? = some o → edge o (k + j) = true) ∨ (x ≠ id ∧ entHas id f = false)
  old : ∀ j x e f, j < n → F (k + j) = some (x, e, f) → look x σ = none ∧ look x ss = none ∧
    ((look x σ0 = some e ∧ (∀ p, p ∈ bs → p.2.1 ≠ x) ∧ ∀ j' id e', j' < n → E (k + j') = some (id, e') → id ≠ x) ∨ (∃ b, (b, x, e) ∈ bs ∧ ∀ o, all[k + j]? = some o → edge o b = true) ∨ (∃ j', j' < n ∧ E (k + j') = some (x, e) ∧ ∀ o, all[k + j]? = some o → edge o (k + j') = true))
  ff : ∀ i j x e f e' f', i < n → j < n → F (k + i) = some (x, e, f) → F (k + j) = some (x, e', f') → i = j
  bv : ∀ p, p ∈ bs → ∀ j, j < n → (∀ x, dstAt all (k + j) = some x → has2 p.2.1 (V (k + j)) = false) ∧ (∀ id e, E (k + j) = some (id, e) → id ≠ p.2.1 ∧ entHas p.2.1 e = false) ∧
    ∀ x e f, F (k + j) = some (x, e, f) → (∀ o, all[k + j]? = some o → edge o p.1 = true) ∨ (x ≠ p.2.1 ∧ entHas p.2.1 f = false)
def consE (k : Nat) : Option (Nat × Ent) → Bs → Bs
  | some q, bs => (k, q) :: bs
  | none, bs => bs
theorem bsS_cons (k : Nat) (E0 : Option (Nat × Ent)) (bs : Bs) : bsS (consE k E0 bs) = consO E0 (bsS bs) := by cases E0 <;> rfl
theorem fresh_app {id : Nat} {t : T} {a b : Sg} {pin : List Nat} (h : isFresh id t (a ++ b) pin = true) : isFresh id t a pin = true ∧ isFresh id t b pin = true := by
  simp only [isFresh, Bool.and_eq_true, List.all_append] at h ⊢
  exact ⟨⟨⟨h.1.1, h.1.2.1⟩, h.2⟩, ⟨⟨h.1.1, h.1.2.2⟩, h.2⟩⟩
theorem fresh_mem {id : Nat} {t : T} {σ : Sg} {pin : List Nat} (h : isFresh id t σ pin = true) {p : Nat × Ent} (hp : p ∈ σ) : p.1 ≠ id ∧ entHas id p.2 = false := by
  simp only [isFresh, Bool.and_eq_true, List.all_eq_true] at h
  have := h.1.2 p hp
  simp only [Bool.and_eq_true, Bool.not_eq_true'] at this
  exact ⟨fun e => by rw [e] at this; simp at this, this.2⟩
theorem fresh_less {id : Nat} {t : T} {σ σ' : Sg} {pin : List Nat} (h : isFresh id t σ pin = true) (hs : ∀ p, p ∈ σ' → p ∈ σ) : isFresh id t σ' pin = true := by
  simp only [isFresh, Bool.and_eq_true, List.all_eq_true] at h ⊢
  exact ⟨⟨h.1.1, fun p hp => h.1.2 p (hs p hp)⟩, h.2⟩
theorem CT.table {X : Cx} {all : Array Oper} {σ0 σ : Sg} {Q : T → Sg → Prop} : ∀ (rest : List Oper) (k : Nat) (t : T) (bs : Bs) (ss : Sg), (∀ j, j < rest.length → all[k + j]? = rest[j]?) → CT X all σ0 σ Q rest k t bs ss → ∃ V E F, TTab X all σ0 σ Q rest.length k t bs ss V E F
  | [], k, t, bs, ss, _, h => ⟨fun _ => .junk, fun _ => none, fun _ => none, ⟨fun j o hj => by simp at hj, h, fun j id e hj => by simp at hj, fun j j' x id e hj => by simp at hj, fun j j' id e id' e' hj => by simp at hj, fun j j' id e x e' f hj => by simp at hj, fun j x e f hj => by simp at hj, fun i j x e f e' f' hi => by simp at hi, fun p _ j hj => by simp at hj⟩⟩
  | p :: rest, k, t, bs, ss, ha, h => by
    have hk : all[k]? = some p := by simpa using ha 0 (by simp)
    have hdk : dstAt all k = p.dst := by simp [dstAt, hk]
    have ha' : ∀ j, j < rest.length → all[k + 1 + j]? = rest[j]? := fun j hj => by have := ha (j + 1) (by simp; omega); rw [show k + 1 + j = k + (j + 1) from by omega]; simpa using this
    have hne : ∀ j, k + (j + 1) ≠ k := fun j => by omega
    have hadd : ∀ j, k + (j + 1) = k + 1 + j := fun j => by omega
    have key : ∀ (V0 : AV) (E0 : Option (Nat × Ent)) (F0 : Option (Nat × Ent × Ent)), TStep X all p t σ V0 E0 F0 → dOk p.dst X.N = true → CT X all σ0 σ Q rest (k + 1) (putT p.dst V0 t) (consE k E0 bs) (consF F0 ss) →
        (∀ id e, E0 = some (id, e) → isFresh id t (ss ++ (bsS bs ++ σ0)) X.pin = true) →
        (∀ x e f, F0 = some (x, e, f) → E0 = none ∧ look x σ = none ∧ look x ss = none ∧ ((look x σ0 = some e ∧ ∀ q, q ∈ bs → q.2.1 ≠ x) ∨ (∃ b, (b, x, e) ∈ bs ∧ edge p b = true))) →
        (∀ q, q ∈ bs → (∀ x, p.dst = some x → has2 q.2.1 V0 = false) ∧ (∀ id e, E0 = some (id, e) → id ≠ q.2.1 ∧ entHas q.2.1 e = false) ∧ ∀ x e f, F0 = some (x, e, f) → edge p q.1 = true ∨ (x ≠ q.2.1 ∧ entHas q.2.1 f = false)) →
        ∃ V E F, TTab X all σ0 σ Q (p :: rest).length k t bs ss V E F := by
      intro V0 E0 F0 hB hdok h4 hE0 hF0 hbs
      obtain ⟨V', E', F', tb⟩ := CT.table rest (k + 1) _ _ _ ha' h4
      obtain ⟨i1, ⟨t', i2, i3⟩, i4, i5, i6, i7, i8, i9, i10⟩ := tb
      have hV : ∀ j, statesFrom all (fun i => if i = k then V0 else V' i) t k (j + 1) = statesFrom all V' (putT p.dst V0 t) (k + 1) j := fun j => by
        rw [statesFrom_succ, hdk]
        simp only [if_true]
        exact statesFrom_congr j fun i h7 h8 => if_neg (by omega)
      have hFF : ∀ j, sFrom (fun i => if i = k then F0 else F' i) k ss (j + 1) = sFrom F' (k + 1) (consF F0 ss) j := fun j => by
        rw [sFrom_succ]
        simp only [if_true]
        exact sFrom_congr (F := fun i => if i = k then F0 else F' i) (F' := F') j fun i h7 h8 => if_neg (by omega)
      have hEE : ∀ j, bornFrom (fun i => if i = k then E0 else E' i) k (bsS bs) (j + 1) = bornFrom E' (k + 1) (bsS (consE k E0 bs)) j := fun j => by
        rw [bornFrom_succ, bsS_cons]
        simp only [if_true]
        exact bornFrom_congr (E := fun i => if i = k then E0 else E' i) (E' := E') j fun i h7 h8 => if_neg (by omega)
      -- the head's birth is a member of what is born behind it
      have memE : ∀ q, E0 = some q → (k, q) ∈ consE k E0 bs := fun q e => by rw [e]; simp [consE]
      have memB : ∀ q, q ∈ bs → q ∈ consE k E0 bs := fun q hq => by cases E0 <;> simp [consE, hq]
      have freshL : ∀ id, isFresh id (putT p.dst V0 t) (consF F0 ss ++ (bsS (consE k E0 bs) ++ σ0)) X.pin = true → isFresh id t (ss ++ (bsS bs ++ σ0)) X.pin = true ∧ (∀ x, p.dst = some x → has2 id V0 = false) ∧ (∀ id' e', E0 = some (id', e') → id' ≠ id ∧ entHas id e' = false) ∧ ∀ x e f, F0 = some (x, e, f) → x ≠ id ∧ entHas id f = false := by
        intro id hf
        obtain ⟨g1, g2⟩ := fresh_putT hf
        refine ⟨fresh_less g1 fun q hq => ?_, g2, fun id' e' h => ?_, fun x e f h => ?_⟩
        · rcases List.mem_append.1 hq with h | h
          · exact List.mem_append.2 (.inl (by cases F0 with | none => exact h | some r => exact List.mem_cons.2 (.inr h)))
          · rcases List.mem_append.1 h with h | h
            · refine List.mem_append.2 (.inr (List.mem_append.2 (.inl ?_)))
              rw [bsS_cons]; cases E0 with | none => exact h | some r => exact List.mem_cons.2 (.inr h)
            · exact List.mem_append.2 (.inr (List.mem_append.2 (.inr h)))
        · exact fresh_mem g1 (p := (id', e')) (List.mem_append.2 (.inr (List.mem_append.2 (.inl (by rw [bsS_cons, h]; simp [consO])))))
        · exact fresh_mem g1 (p := (x, f)) (List.mem_append.2 (.inl (by rw [h]; simp [consF])))
      refine ⟨fun i => if i = k then V0 else V' i, fun i => if i = k then E0 else E' i, fun i => if i = k then F0 else F' i, ?_, ⟨t', by rw [List.length_cons, hV]; exact i2, by rw [List.length_cons, hFF, hEE]; exact i3⟩, ?_, ?_, ?_, ?_, ?_, ?_, ?_⟩
      · intro j o hj ho
        cases j with
        | zero =>
          rw [Nat.add_zero, hk] at ho
          simp only [Option.some.injEq] at ho
          subst ho
          simp only [Nat.add_zero, if_true, statesFrom]
          exact ⟨hB, hdok⟩
        | succ j =>
          rw [hV]
          simp only [if_neg (hne j)]
          have := i1 j o (by simpa using hj) (by rw [← hadd j]; exact ho)
          rw [hadd j]; exact this
      · intro j id e hj hE
        cases j with
        | zero => simp only [Nat.add_zero, if_true] at hE; exact hE0 id e hE
        | succ j =>
          simp only [if_neg (hne j)] at hE; rw [hadd j] at hE
          exact (freshL id (i4 j id e (by simpa using hj) hE)).1
      · intro j j' x id e hj hj' hjj hE hx
        cases j with
        | zero =>
          simp only [Nat.add_zero, if_true] at hE
          cases j' with
          | zero => exact absurd rfl hjj
          | succ j' =>
            simp only [if_neg (hne j')] at hx ⊢; rw [hadd j'] at hx ⊢
            exact (i10 _ (memE _ hE) j' (by simpa using hj')).1 x hx
        | succ j =>
          simp only [if_neg (hne j)] at hE; rw [hadd j] at hE
          cases j' with
          | zero =>
            simp only [Nat.add_zero, if_true] at hx ⊢
            exact (freshL id (i4 j id e (by simpa using hj) hE)).2.1 x (by rw [← hdk]; exact hx)
          | succ j' =>
            simp only [if_neg (hne j')] at hx ⊢; rw [hadd j'] at hx ⊢
            exact i5 j j' x id e (by simpa using hj) (by simpa using hj') (by omega) hE hx
      · intro j j' id e id' e' hj hj' hjj hE hE'
        cases j with
        | zero =>
          simp only [Nat.add_zero, if_true] at hE
          cases j' with
          | zero => exact absurd rfl hjj
          | succ j' =>
            simp only [if_neg (hne j')] at hE'; rw [hadd j'] at hE'
            exact (i10 _ (memE _ hE) j' (by simpa using hj')).2.1 id' e' hE'
        | succ j =>
          simp only [if_neg (hne j)] at hE; rw [hadd j] at hE
          cases j' with
          | zero =>
            simp only [Nat.add_zero, if_true] at hE'
            exact (freshL id (i4 j id e (by simpa using hj) hE)).2.2.1 id' e' hE'
          | succ j' =>
            simp only [if_neg (hne j')] at hE'; rw [hadd j'] at hE'
            exact i6 j j' id e id' e' (by simpa using hj) (by simpa using hj') (by omega) hE hE'
      · intro j j' id e x e' f hj hj' hE hF
        cases j with
        | zero =>
          simp only [Nat.add_zero, if_true] at hE
          cases j' with
          | zero =>
            simp only [Nat.add_zero, if_true] at hF
            have := (hF0 x e' f hF).1
            rw [hE] at this; cases this
          | succ j' =>
            simp only [if_neg (hne j')] at hF; rw [hadd j'] at hF
            have := (i10 _ (memE _ hE) j' (by simpa using hj')).2.2 x e' f hF
            rw [hadd j']; exact this
        | succ j =>
          simp only [if_neg (hne j)] at hE; rw [hadd j] at hE
          cases j' with
          | zero =>
            simp only [Nat.add_zero, if_true] at hF
            exact .inr ((freshL id (i4 j id e (by simpa using hj) hE)).2.2.2 x e' f hF)
          | succ j' =>
            simp only [if_neg (hne j')] at hF; rw [hadd j'] at hF
            rw [hadd j, hadd j']
            exact i7 j j' id e x e' f (by simpa using hj) (by simpa using hj') hE hF
      · intro j x e f hj hF
        cases j with
        | zero =>
          simp only [Nat.add_zero, if_true] at hF
          obtain ⟨g0, g1, g2, g3⟩ := hF0 x e f hF
          refine ⟨g1, g2, ?_⟩
          rcases g3 with ⟨g4, g5⟩ | ⟨b, g4, g5⟩
          · refine .inl ⟨g4, g5, fun j' id e' hj' hE => ?_⟩
            cases j' with
            | zero => simp only [Nat.add_zero, if_true] at hE; rw [g0] at hE; cases hE
            | succ j' =>
              simp only [if_neg (hne j')] at hE; rw [hadd j'] at hE
              exact fun e => ((freshL id (i4 j' id e' (by simpa using hj') hE)).2.2.2 _ _ _ hF).1 e.symm
          · exact .inr (.inl ⟨b, g4, fun o ho => by rw [Nat.add_zero, hk] at ho; cases ho; exact g5⟩)
        | succ j =>
          simp only [if_neg (hne j)] at hF; rw [hadd j] at hF
          obtain ⟨g1, g2, g3⟩ := i8 j x e f (by simpa using hj) hF
          refine ⟨g1, ?_, ?_⟩
          · cases F0 with
            | none => exact g2
            | some q =>
              obtain ⟨y, e0, f0⟩ := q
              simp only [consF] at g2
              rw [look_cons] at g2
              split at g2
              · cases g2
              · exact g2
          · rcases g3 with ⟨g4, g5, g6⟩ | ⟨b, g4, g5⟩ | ⟨j', g4, g5, g6⟩
            · refine .inl ⟨g4, fun q hq => g5 q (memB q hq), fun j' id e' hj' hE => ?_⟩
              cases j' with
              | zero => simp only [Nat.add_zero, if_true] at hE; exact g5 _ (memE _ hE)
              | succ j' =>
                simp only [if_neg (hne j')] at hE; rw [hadd j'] at hE
                exact g6 j' id e' (by simpa using hj') hE
            · cases hE : E0 with
              | none => rw [hE] at g4; exact .inr (.inl ⟨b, g4, fun o ho => g5 o (by rw [← hadd j]; exact ho)⟩)
              | some q =>
                rw [hE] at g4
                rcases List.mem_cons.1 g4 with h | h
                · obtain ⟨y, e1⟩ := q
                  simp only [Prod.mk.injEq] at h
                  obtain ⟨rfl, rfl, rfl⟩ := h
                  exact .inr (.inr ⟨0, by simp, by simp [hE], fun o ho => g5 o (by rw [← hadd j]; exact ho)⟩)
                · exact .inr (.inl ⟨b, h, fun o ho => g5 o (by rw [← hadd j]; exact ho)⟩)
            · refine .inr (.inr ⟨j' + 1, by simp; omega, ?_, fun o ho => ?_⟩)
              · simp only [if_neg (hne j')]; rw [hadd j']; exact g5
              · rw [hadd j']; exact g6 o (by rw [← hadd j]; exact ho)
      · have cross : ∀ j x e f e' f', j < rest.length → F0 = some (x, e, f) → F' (k + 1 + j) = some (x, e', f') → False := fun j x e f e' f' hj h1 h2 => by
          obtain ⟨_, g3, _⟩ := i8 j x e' f' hj h2
          rw [h1] at g3
          simp only [consF] at g3
          rw [look_cons, if_pos rfl] at g3; cases g3
        intro i j x e f e' f' hi hj h1 h2
        cases i with
        | zero =>
          simp only [Nat.add_zero, if_true] at h1
          cases j with
          | zero => rfl
          | succ j =>
            simp only [if_neg (hne j)] at h2; rw [hadd j] at h2
            exact (cross j x e f e' f' (by simpa using hj) h1 h2).elim
        | succ i =>
          simp only [if_neg (hne i)] at h1; rw [hadd i] at h1
          cases j with
          | zero =>
            simp only [Nat.add_zero, if_true] at h2
            exact (cross i x e' f' e f (by simpa using hi) h2 h1).elim
          | succ j =>
            simp only [if_neg (hne j)] at h2; rw [hadd j] at h2
            rw [i9 i j x e f e' f' (by simpa using hi) (by simpa using hj) h1 h2]
      · intro q hq j hj
        cases j with
        | zero =>
          simp only [Nat.add_zero, if_true]
          obtain ⟨g1, g2, g3⟩ := hbs q hq
          refine ⟨fun x hx => g1 x (by rw [← hdk]; exact hx), g2, fun x e f hF => ?_⟩
          rcases g3 x e f hF with h | h
          · exact .inl fun o ho => by rw [hk] at ho; cases ho; exact h
          · exact .inr h
        | succ j =>
          simp only [if_neg (hne j)]; rw [hadd j]
          exact i10 q (memB q hq) j (by simpa using hj)
    rcases h with ⟨V0, h1, h2, h3, h4⟩ | ⟨id0, V0, e0, hd, hg, hnj, hN, hf, hb, h4⟩ | ⟨x0, e0, f0, hs, g1, g2, g3, g4, h4⟩
    · exact key V0 none none (.inl ⟨rfl, rfl, h1⟩) h2 h4 (fun id e h => by cases h) (fun x e f h => by cases h) fun q hq => ⟨fun x _ => h3 q hq, fun id e h => (by cases h), fun x e f h => (by cases h)⟩
    · refine key V0 (some (id0, e0)) none (.inr (.inl ⟨id0, e0, rfl, rfl, hg, hnj⟩)) (by rw [hd]; exact hN) (by rw [hd]; exact h4) (fun id e h => by cases h; exact hf) (fun x e f h => by cases h) fun q hq => ⟨fun x _ => (hb q hq).2, fun id e h => ?_, fun x e f h => by cases h⟩
      cases h
      have := fresh_mem (fresh_app (fresh_app hf).2).1 (p := q.2) (List.mem_map.2 ⟨q, hq, rfl⟩)
      exact ⟨fun e => this.1 e.symm, (hb q hq).1⟩
    · have hd0 := hs.2.1
      exact key .junk none (some (x0, e0, f0)) (.inr (.inr ⟨x0, e0, f0, rfl, rfl, hs⟩)) (by rw [hd0]; rfl) (by rw [hd0]; exact h4) (fun id e h => by cases h) (fun x e f h => by cases h; exact ⟨rfl, g1, g2, g3⟩) fun q hq => ⟨fun x hx => (by rw [hd0] at hx; cases hx), fun id e h => (by cases h), fun x e f h => (by cases h; exact g4 q hq)⟩
theorem WJ.calmT {X : Cx} {id : Nat} {ops : Array Oper} {t : T} {σ0 σ : Sg} {R : T → Sg → Prop} {Q' : Exit → Act → World → Prop} (m : Nat) (hm : X.P.follows .mixedOrders = true) (hc : CalmR ops m) (hle : m ≤ ops.size) (hσ : Wk σ σ0)
    (hend : ∀ t ss, R t ss → ∀ γ H a w listed, St X γ H t (ss ++ σ0) a w → listed.size = ops.size → (∀ j, j < ops.size → listed.getD j false = decide (j < m)) → wpAnyIn (Fr X.ro) 0 X.P .any ops Q' (ops.size - m) listed a w)
    (h : CT X ops σ0 σ R (ops.toList.take m) 0 t [] []) : ∀ γ H a w, St X γ H t σ0 a w → (Code.region id ops true).wpIn (Fr X.ro) 0 X.P Q' a w := by
  intro γ H a w s
  refine wpIn_region_any hm ?_
  have hlen : (ops.toList.take m).length = m := by simp; omega
  obtain ⟨V, E, F, tb⟩ := CT.table (ops.toList.take m) 0 t [] [] (fun j hj => by rw [hlen] at hj; rw [Nat.zero_add, List.getElem?_take, if_pos hj]; simp) h
  rw [hlen] at tb
  obtain ⟨h1, ⟨t', h2, h3⟩, i4, i5, i6, i7, i8, i9, _⟩ := tb
  simp only [Nat.zero_add] at h1 i4 i5 i6 i7 i8 i9
  have s' : St X γ H t σ0 a { w with drawn := w.drawn + 1 } := ⟨s.lam, s.round, s.defers, s.size, s.pinned, s.tmp, s.mem.drew⟩
  have hall : ∀ j, (Array.replicate ops.size false).getD j false = false := fun j => by
    rw [Array.getD_eq_getD_getElem?, Array.getElem?_replicate]; split <;> rfl
  have cutE : ∀ i id e, (if i < m then E i else none) = some (id, e) → i < m ∧ E i = some (id, e) := fun i id e h => by
    by_cases hi : i < m
    · rw [if_pos hi] at h; exact ⟨hi, h⟩
    · rw [if_neg hi] at h; cases h
  have cutF : ∀ i x e f, (if i < m then F i else none) = some (x, e, f) → i < m ∧ F i = some (x, e, f) := fun i x e f h => by
    by_cases hi : i < m
    · rw [if_pos hi] at h; exact ⟨hi, h⟩
    · rw [if_neg hi] at h; cases h
  have zero : ∀ (G : Nat → Option (Nat × Ent)) (B : Sg), bornAt G (fun j => (Array.replicate ops.size false).getD j false) B m = B := fun G B => by
    have h0 : ∀ k, bornAt G (fun _ => false) B k = B := fun k => by
      induction k with
      | zero => rfl
      | succ k ih => simp only [bornAt, ih]; split <;> simp
    rw [bornAt_congr (S' := fun _ => false) m (fun j _ _ => hall j)]; exact h0 m
  have hb : bornAt (fun i => if i < m then E i else none) (fun _ => true) σ0 m = bornFrom E 0 [] m ++ σ0 := by
    rw [bornAt_all]
    congr 1
    exact bornFrom_congr m fun i _ hi => if_pos (by omega)
  have hnew : ∀ (B : Sg) j, j ≤ m → bornAt (newF fun i => if i < m then F i else none) (fun _ => true) B j = sFrom F 0 [] j ++ B := fun B j => by
    induction j with
    | zero => intro _; rfl
    | succ j ih =>
      intro hj
      have e1 : newF (fun i => if i < m then F i else none) j = newF F j := by
        unfold newF
        have : (if j < m then F j else none) = F j := if_pos (by omega)
        simp only [this]
      simp only [bornAt, sFrom, Nat.zero_add]
      rw [ih (by omega), e1]
      unfold newF
      cases F j with
      | none => rfl
      | some q => obtain ⟨x, e, f⟩ := q; rfl
  refine calm_anyT hc hle (V := V) (E := fun i => if i < m then E i else none) (F := fun i => if i < m then F i else none) (σ := σ0) (σq := σ) hσ (fun i o hi ho => by
    have := h1 i o hi ho
    rw [statesFrom_zero] at this
    simp only [if_pos hi]; exact this) (fun i hi => if_neg (by omega)) (fun i hi => if_neg (by omega)) (fun i id e hE => ?_) (fun i j x e f e' f' h1 h2 => by
      obtain ⟨a1, a2⟩ := cutF _ _ _ _ h1
      obtain ⟨b1, b2⟩ := cutF _ _ _ _ h2
      exact i9 i j x e f e' f' a1 b1 a2 b2) (fun i x e f hF => ?_) (fun γ H a w lst st hls hlst => ?_) ops.size _ γ H a _ (by simp) (fun j _ => hall j) (fun i o hi => by rw [hall i] at hi; cases hi) ?_ ?_ ?_
  · obtain ⟨him, hE⟩ := cutE _ _ _ hE
    refine ⟨(by simpa [bsS] using i4 i id e him hE), fun j x hj hne hx => i5 i j x id e him hj hne hE hx, fun j id' e' hne hE' => ?_, fun j x e' f hF => ?_⟩
    · obtain ⟨hj, hE'⟩ := cutE _ _ _ hE'
      exact i6 i j id e id' e' him hj hne hE hE'
    · obtain ⟨hj, hF⟩ := cutF _ _ _ _ hF
      exact i7 i j id e x e' f him hj hE hF
  · obtain ⟨him, hF⟩ := cutF _ _ _ _ hF
    obtain ⟨g1, _, g3⟩ := i8 i x e f him hF
    refine ⟨g1, ?_⟩
    rcases g3 with ⟨g4, _, g6⟩ | ⟨b, g4, _⟩ | ⟨j', g4, g5, g6⟩
    · refine .inl ⟨g4, fun j id e' hE => ?_⟩
      obtain ⟨hj, hE⟩ := cutE _ _ _ hE
      exact g6 j id e' hj hE
    · cases g4
    · exact .inr ⟨j', g4, (if_pos g4).trans g5, g6⟩
  · rw [hb, hnew _ m (Nat.le_refl _), ← List.append_assoc] at st
    exact hend _ _ h3 γ H a w lst (st.wk (by rw [statesFrom_zero] at h2; exact h2) (Wk.refl _)) hls hlst
  · have : ((List.range m).filter fun j => !(Array.replicate ops.size false).getD j false) = List.range m := List.filter_eq_self.2 fun j _ => by rw [hall j]; rfl
    rw [this, List.length_range]; omega
  · intro x b hx
    have : lastW ops (fun j => (Array.replicate ops.size false).getD j false) x m = none := by
      have h0 : ∀ k, lastW ops (fun _ => false) x k = none := fun k => by
        induction k with
        | zero => rfl
        | succ k ih => simp [lastW, ih]
      rw [lastW_congr (S' := fun _ => false) m (fun j _ _ => hall j)]; exact h0 m
    simp only [tabAt, this] at hx
    exact s.tmp x b hx
  · rw [zero, zero]; exact s'.wk (Wk.nil _) (Wk.refl _)
/-! ### The reckoning -/
def lookB (i : Nat) : Bs → Option (Nat × Ent)
  | [] => none
  | (b, j, e) :: r => match Nat.beq i j with | true => some (b, e) | false => lookB i r
theorem lookB_some {i : Nat} : ∀ {bs : Bs} {b : Nat} {e : Ent}, lookB i bs = some (b, e) → (b, i, e) ∈ bs
  | [], b, e, h => by cases h
  | (c, j, f) :: r, b, e, h => by
    simp only [lookB] at h
    split at h
    · next hb => cases h; have := Nat.eq_of_beq_eq_true hb; subst this; simp
    · exact List.mem_cons.2 (.inr (lookB_some h))
theorem lookB_none {i : Nat} : ∀ {bs : Bs}, lookB i bs = none → ∀ p, p ∈ bs → p.2.1 ≠ i
  | [], _, p, hp => by cases hp
  | (c, j, f) :: r, h, p, hp => by
    simp only [lookB] at h
    split at h
    · cases h
    · next hb =>
      rcases List.mem_cons.1 hp with rfl | hp
      · intro e; simp only at e; subst e; simp at hb
      · exact lookB_none h p hp
def okB (o : Oper) (i : Nat) (f : Ent) (bs : Bs) : Bool := bs.all fun p => edge o p.1 || (!Nat.beq i p.2.1 && !entHas p.2.1 f)
def oldB (o : Oper) (i : Nat) (σ0 : Sg) (bs : Bs) : Option Ent := match lookB i bs with
  | some (b, e) => (match edge o b with | true => some e | false => none)
  | none => look i σ0
/-- A store of the head. -/
def stT (X : Cx) (o : Oper) (e : TypeId) (x y : Operand) (t : T) (σ0 σ : Sg) (bs : Bs) (ss : Sg) (K : Nat → Ent → Prop) : Prop := match szOf X.P e, ge t x, ge t y with
  | some n, some (.box i off), some v => (match oldB o i σ0 bs, look i σ, look i ss with
    | some (.cells cs), none, none => (match oneAV v && oneAll (avCells v) && Nat.beq (avCells v).length n && Nat.ble (off + n) cs.length with
      | true => frcN (off + n) (setF cs off (avCells v)) fun cs' => (match okB o i (.cells cs') bs with | true => K i (.cells cs') | false => False)
      | false => False)
    | _, _, _ => False)
  | _, _, _ => False
def stepT (X : Cx) (o : Oper) (k : Nat) (t : T) (σ0 σ : Sg) (bs : Bs) (ss : Sg) (K : T → Bs → Prop) : Prop := match bornV X o t, o.dst, o.guard with
  | some cs, some id, none => (match isFresh id t (ss ++ (bsS bs ++ σ0)) X.pin && !cs.any (has2 id) && dOk (some id) X.N && bs.all (fun p => !entHas p.2.1 (.cells cs)) with
    | true => K ((id, .box id 0) :: t) ((k, id, .cells cs) :: bs)
    | false => False)
  | _, d, gd => qw X o t σ (fun V => match dOk d X.N && bs.all (fun p => !has2 p.2.1 V) with | true => K (putT d V t) bs | false => False)
      (QuietP X o t σ (fun V => match dOk d X.N && bs.all (fun p => !has2 p.2.1 V) with | true => K (putT d V t) bs | false => False)
        fun id V e => match d, gd with
          | some id', none => (match Nat.beq id id' && isFresh id t (ss ++ (bsS bs ++ σ0)) X.pin && dOk (some id) X.N && bs.all (fun p => !entHas p.2.1 e) && bs.all (fun p => !has2 p.2.1 V) with
            | true => K ((id, V) :: t) ((k, id, e) :: bs)
            | false => False)
          | _, _ => False)
def vT (X : Cx) (all : Array Oper) (σ0 σ : Sg) (Q : T → Sg → Prop) : List Oper → Nat → T → Bs → Sg → Prop
  | [], _, t, bs, ss => Q t (ss ++ bsS bs)
  | o :: rest, k, t, bs, ss => match o.op, o.dst, o.guard with
    | .store e x y, none, none => stT X o e x y t σ0 σ bs ss fun i f => vT X all σ0 σ Q rest (k + 1) t bs ((i, f) :: ss)
    | _, _, none => stepT X o k t σ0 σ bs ss fun t bs => vT X all σ0 σ Q rest (k + 1) t bs ss
    | _, _, some (j, b0) => match dstOf all j, dOk o.dst X.N with
      | some d, true => (match look d t with
        | some (.d (.v (.bool b))) => grd b0 b d t (fun t => stepT X o k t σ0 σ bs ss fun t bs => vT X all σ0 σ Q rest (k + 1) t bs ss) (fun t => vT X all σ0 σ Q rest (k + 1) (putT o.dst (.tup []) t) bs ss)
        | some (.tup []) => vT X all σ0 σ Q rest (k + 1) (putT o.dst (.tup []) t) bs ss
        | _ => False)
      | _, _ => False
theorem CT.wk {X : Cx} {all : Array Oper} {σ0 σ : Sg} {Q : T → Sg → Prop} : ∀ (rest : List Oper) (k : Nat) (t t' : T) (bs : Bs) (ss : Sg), Wk t' t → (∀ p, p ∈ t → p ∈ t') → CT X all σ0 σ Q rest k t' bs ss → CT X all σ0 σ Q rest k t bs ss
  | [], k, t, t', bs, ss, hw, _, ⟨t'', h1, h2⟩ => ⟨t'', h1.trans hw, h2⟩
  | o :: rest, k, t, t', bs, ss, hw, hm, h => by
    rcases h with ⟨V, h1, h2, h3, h4⟩ | ⟨id, V, e, hd, hg, hn, hN, hf, hb, h4⟩ | ⟨x, e, f, hs, g1, g2, g3, g4, h4⟩
    · refine .inl ⟨V, h1.wk hw, h2, h3, CT.wk rest _ _ _ bs ss hw.put (fun p hp => ?_) h4⟩
      cases ho : o.dst with
      | none => rw [ho] at hp; exact hm p hp
      | some d =>
        rw [ho] at hp
        rcases List.mem_cons.1 hp with h | h
        · exact List.mem_cons.2 (.inl h)
        · exact List.mem_cons.2 (.inr (hm p h))
    · refine .inr (.inl ⟨id, V, e, hd, hg, hn.wk hw, hN, isFresh_wkT hf hm, hb, CT.wk rest _ _ _ _ ss (fun i a hi => ?_) (fun p hp => ?_) h4⟩)
      · rw [look_cons] at hi ⊢
        split
        · next e => rw [if_pos e] at hi; exact hi
        · next e => rw [if_neg e] at hi; exact hw i a hi
      · rcases List.mem_cons.1 hp with h | h
        · exact List.mem_cons.2 (.inl h)
        · exact List.mem_cons.2 (.inr (hm p h))
    · exact .inr (.inr ⟨x, e, f, hs.wk hw, g1, g2, g3, g4, CT.wk rest _ _ _ bs _ hw hm h4⟩)
theorem stepT_sound {X : Cx} {all : Array Oper} {o : Oper} {k : Nat} {t : T} {σ0 σ ss : Sg} {bs : Bs} {rest : List Oper} {Q : T → Sg → Prop} {K : T → Bs → Prop} (hK : ∀ t bs, K t bs → CT X all σ0 σ Q rest (k + 1) t bs ss)
    (hg : o.guard = none ∨ ∃ j b d, o.guard = some (j, b) ∧ ((all[j]?).bind (·.dst)) = some d ∧ look d t = some (.d (.v (.bool b)))) (h : stepT X o k t σ0 σ bs ss K) : CT X all σ0 σ Q (o :: rest) k t bs ss := by
  have allB : ∀ (V : AV), (bs.all fun p => !has2 p.2.1 V) = true → ∀ p, p ∈ bs → has2 p.2.1 V = false := fun V h p hp => by simpa using List.all_eq_true.1 h p hp
  have allE : ∀ (e : Ent), (bs.all fun p => !entHas p.2.1 e) = true → ∀ p, p ∈ bs → entHas p.2.1 e = false := fun e h p hp => by simpa using List.all_eq_true.1 h p hp
  have fin : ∀ V, QJ X o t σ V → (match dOk o.dst X.N && bs.all (fun p => !has2 p.2.1 V) with | true => K (putT o.dst V t) bs | false => False) → CT X all σ0 σ Q (o :: rest) k t bs ss := fun V hq hk => by
    split at hk
    · next hb =>
      simp only [Bool.and_eq_true] at hb
      rcases hg with hg | ⟨j, b, d, h1, h2, h3⟩
      · exact .inl ⟨V, .inl ⟨hg, hq⟩, hb.1, allB V hb.2, hK _ _ hk⟩
      · exact .inl ⟨V, .inr (.inl ⟨j, b, d, h1, h2, h3, hq⟩), hb.1, allB V hb.2, hK _ _ hk⟩
    · exact hk.elim
  unfold stepT at h
  split at h
  · next cs id hb hd hg0 =>
    split at h
    · next hx =>
      simp only [Bool.and_eq_true, Bool.not_eq_true'] at hx
      refine .inr (.inl ⟨id, _, _, hd, hg0, (bornV_sound hb).birth hx.1.1.2, hx.1.2, hx.1.1.1, fun p hp => ⟨allE _ hx.2 p hp, ?_⟩, hK _ _ h⟩)
      have := (fresh_mem (fresh_app (fresh_app hx.1.1.1).2).1 (p := p.2) (List.mem_map.2 ⟨p, hp, rfl⟩)).1
      have hne : Nat.beq p.2.1 id = false := by rw [← Bool.not_eq_true, Nat.beq_eq]; exact this
      simp [has2, has1, has0, hne]
    · exact h.elim
  · rcases qw_sound h with ⟨V, hq, hk⟩ | h
    · exact fin V hq hk
    · cases h with
      | of hq hk => exact fin _ hq hk
      | born hb hk =>
        split at hk
        · next id' hd hg0 =>
          split at hk
          · next hx =>
            simp only [Bool.and_eq_true] at hx
            obtain rfl := Nat.eq_of_beq_eq_true hx.1.1.1.1
            exact .inr (.inl ⟨_, _, _, hd, hg0, hb, hx.1.1.2, hx.1.1.1.2, fun p hp => ⟨allE _ hx.1.2 p hp, allB _ hx.2 p hp⟩, hK _ _ hk⟩)
          · exact hk.elim
        · exact hk.elim
theorem stT_sound {X : Cx} {o : Oper} {e : TypeId} {x y : Operand} {t : T} {σ0 σ ss : Sg} {bs : Bs} {K : Nat → Ent → Prop} (ho : o.op = .store e x y) (hd : o.dst = none) (hg : o.guard = none) (h : stT X o e x y t σ0 σ bs ss K) :
    ∃ id en f, StoreJ X o t id en f ∧ look id σ = none ∧ look id ss = none ∧ ((look id σ0 = some en ∧ ∀ p, p ∈ bs → p.2.1 ≠ id) ∨ (∃ b, (b, id, en) ∈ bs ∧ edge o b = true)) ∧ (∀ p, p ∈ bs → edge o p.1 = true ∨ (id ≠ p.2.1 ∧ entHas p.2.1 f = false)) ∧ K id f := by
  unfold stT at h
  split at h
  · next n i off v hs hx hy =>
    split at h
    · next cs h1 h2 h3 =>
      split at h
      · next hb =>
        simp only [Bool.and_eq_true, Nat.ble_eq, Nat.beq_eq] at hb
        rw [frcN_eq, setF_eq] at h
        split at h
        · next hok =>
          refine ⟨i, .cells cs, .cells (setL cs off (avCells v)), ⟨hg, hd, fun t' σ' hop hl => ?_⟩, h2, h3, ?_, fun p hp => ?_, h⟩
          · obtain ⟨d, op, ty, pos, aft, g⟩ := o
            simp only at ho hd hg
            subst ho; subst hd; subst hg
            exact O.store (hop x (by simp [Op.operands]) _ hx) rfl (hop y (by simp [Op.operands]) _ hy) hl hb.1.1.1 hb.1.1.2 (szOf_run hs) hb.1.2 hb.2 rfl ⟨rfl, rfl⟩
          · unfold oldB at h1
            split at h1
            · next b en hlb =>
              split at h1
              · next he => cases h1; exact .inr ⟨b, lookB_some hlb, he⟩
              · cases h1
            · next hlb => exact .inl ⟨h1, lookB_none hlb⟩
          · have := List.all_eq_true.1 hok p hp
            rcases Bool.or_eq_true_iff.1 this with h5 | h5
            · exact .inl h5
            · simp only [Bool.and_eq_true, Bool.not_eq_true'] at h5
              exact .inr ⟨fun e => by rw [e] at h5; simp at h5, h5.2⟩
        · exact h.elim
      · exact h.elim
    · exact h.elim
  · exact h.elim
theorem vT_sound {X : Cx} {all : Array Oper} {σ0 σ : Sg} {Q : T → Sg → Prop} : ∀ (rest : List Oper) (k : Nat) (t : T) (bs : Bs) (ss : Sg), vT X all σ0 σ Q rest k t bs ss → CT X all σ0 σ Q rest k t bs ss
  | [], k, t, bs, ss, h => ⟨t, Wk.refl t, h⟩
  | o :: rest, k, t, bs, ss, h => by
    unfold vT at h
    split at h
    · next e x y ho hd hg =>
      obtain ⟨id, en, f, h1, h2, h3, h4, h5, h6⟩ := stT_sound ho hd hg h
      exact .inr (.inr ⟨id, en, f, h1, h2, h3, h4, h5, vT_sound rest _ t bs _ h6⟩)
    · next hg _ => exact stepT_sound (fun t bs h => vT_sound rest _ t bs ss h) (.inl hg) h
    · next j b0 hg =>
      split at h
      · next d hd hN =>
        have hd' : ((all[j]?).bind (·.dst)) = some d := by rw [dstOf_eq]; exact hd
        split at h
        · next b hb =>
          have yes : ∀ c, b = c → stepT X o k ((d, .d (.v (.bool c))) :: t) σ0 σ bs ss (fun t bs => vT X all σ0 σ Q rest (k + 1) t bs ss) → c = b0 → CT X all σ0 σ Q (o :: rest) k t bs ss := fun c hc he hcb => by
            subst hc; subst hcb
            exact CT.wk _ _ _ _ _ _ (Wk.cons hb (Wk.refl t)) (fun p hp => List.mem_cons.2 (.inr hp)) (stepT_sound (fun t bs h => vT_sound rest _ t bs ss h) (.inr ⟨j, b, d, hg, hd', by rw [look_cons, if_pos rfl]⟩) he)
          have no : ∀ c, b = c → vT X all σ0 σ Q rest (k + 1) (putT o.dst (.tup []) ((d, .d (.v (.bool c))) :: t)) bs ss → c ≠ b0 → CT X all σ0 σ Q (o :: rest) k t bs ss := fun c hc he hcb => by
            subst hc
            exact CT.wk _ _ _ _ _ _ (Wk.cons hb (Wk.refl t)) (fun p hp => List.mem_cons.2 (.inr hp)) (.inl ⟨.tup [], .inr (.inr (.inl ⟨j, b0, b, d, hg, hd', by rw [look_cons, if_pos rfl], hcb, rfl⟩)), hN, fun p _ => by simp [has2], vT_sound rest _ _ bs ss he⟩)
          cases b0 with
          | true => cases b with
            | true => exact yes true rfl (h.1 rfl) rfl
            | false => exact no false rfl (h.2 rfl) (by simp)
          | false => cases b with
            | true => exact no true rfl (h.1 rfl) (by simp)
            | false => exact yes false rfl (h.2 rfl) rfl
        · next hb => exact .inl ⟨.tup [], .inr (.inr (.inr ⟨j, b0, d, hg, hd', hb, rfl⟩)), hN, fun p _ => by simp [has2], vT_sound rest _ _ bs ss h⟩
        · exact h.elim
      · exact h.elim
/-- **A region that draws its order: quiet operations ahead, births, and stores into the variables ks or into those that are born, in any order, the rest by all orders.** -/
theorem RegP.mixT {X : Cx} {id : Nat} {ops : Array Oper} {t : T} {σ : Sg} {Q : T → Sg → Prop} (m : Nat) (ks : List Nat) (hm : X.P.follows .mixedOrders = true) (hc : (calmB2 ops m && Nat.ble m ops.size) = true)
    (h : vT X ops σ (hideS ks σ) (fun t ss => vO X ops Q (ops.size - m) (trues m (falses (ops.size - m))) t (ss ++ σ)) (ops.toList.take m) 0 t [] []) : RegP X id ops t σ Q := by
  intro Q' hQ
  simp only [Bool.and_eq_true, Nat.ble_eq] at hc
  refine WJ.calmT m hm (calmB2_R hc.1) hc.2 (hideS_wk ks σ).1 (fun t σ h3 γ H a w lst hst hls hlst => ?_) (vT_sound _ _ _ _ _ h)
  have e : lst = (trues m (falses (ops.size - m))).toArray := by
    rw [trues_eq, falses_eq]
    apply Array.ext
    · simp [hls]; omega
    · intro j h1 h2
      have hj := hlst j (by omega)
      rw [Array.getD_eq_getD_getElem?, Array.getElem?_eq_getElem h1, Option.getD_some] at hj
      rw [hj, List.getElem_toArray, List.getElem_append]
      split
      · next h3 => simp at h3; simp [h3]
      · next h3 => simp at h3; simp; omega
  rw [e]
  exact vO_sound (Q := Q) (Q' := Post X Q') (fun γ H t σ a w s q => ⟨γ, H, t, σ, s, hQ t σ q⟩) (ops.size - m) _ t _ h3 γ H a w hst
end Go.Gv
end
section
open Go Go.Gv
attribute [local irreducible] Go.Gv.WJ Go.Gv.OpJ Go.Gv.QJ Go.Gv.Spl Go.Gv.Req Go.Gv.IdxP Go.Gv.RegP Go.Gv.FinP Go.Gv.CellP Go.Gv.CellsP Go.Gv.ArrP Go.Gv.ArrsP Go.Gv.DropP Go.Gv.ByteP Go.Gv.StoreP
set_option maxRecDepth 100000
namespace Go.Proofs.E
attribute [local irreducible] elems
theorem aw11_a : curAt (rowE pA2.1.l) 1 = (⟨2, 1⟩, 0) := by decide +kernel
theorem aw11_o : pA2.2.1.i = ⟨2, 1⟩ := by decide +kernel
theorem aw11_r : resC (rowE pA3.1.l) ⟨2, 1⟩ = (0, 0) := by decide +kernel
theorem okP2 : okV pA2.1 := (okA1.ins 1 1 98).1
theorem Awake11_c : Cv 26 [] (bv true) := by
  have h1 := InsN_c 1 0 97
  have h2 := VInsert_c okA1.is vA1.R (by have := okA1.len; omega) okA1.ck 1 1 98
  have h3 := VDelete_c okA2.is vA2.R (by have := okA2.len; omega) 0
  have ha := CAt_c okP2.is pA2.1.R 1
  have hr := CResolve_c okA3.is pA3.1.R ⟨2, 1⟩
  rw [aw11_a] at ha
  rw [aw11_r] at hr
  have e1 : insVT vA0 1 0 97 = pA1 := rfl
  have e2 : insVT ⟨vA1.s, vA1.l, vA1.R, []⟩ 1 1 98 = pA2 := rfl
  have e3 : delVT ⟨vA2.s, vA2.l, vA2.R, []⟩ 0 = pA3 := rfl
  rw [e1] at h1
  rw [e2] at h2
  rw [e3] at h3
  have d1 : vA1 = ⟨pA1.1.s, pA1.1.l, pA1.1.R, []⟩ := rfl
  have d2 : vA2 = ⟨pA2.1.s, pA2.1.l, pA2.1.R, []⟩ := rfl
  rw [d1] at h2
  rw [d2] at h3
  have ho := aw11_o
  generalize pA3 = p3 at h3 hr
  generalize pA2 = p2 at h2 h3 ha ho
  generalize pA1 = p1 at h1 h2
  obtain ⟨v3, o3, e3'⟩ := p3
  obtain ⟨v2, ⟨ok, oi, oa, och⟩, e2'⟩ := p2
  obtain ⟨v1, o1, e1'⟩ := p1
  unfold resT at h1 h2 h3
  simp only at h1 h2 h3 ha hr ho
  subst ho
  refine Ct.of_wv Tryz.f26 Tryz.func26 rfl rfl fun w H B g0 => ?_
  try refine WJ.cut ?_
  (first | refine Sq.go ?_ | refine vL_nil (Sq.go ?_) | skip)
  try refine WJ.cut ?_
  refine OpJ.callV h1 (fun _ _ => rfl) rfl rfl rfl ?_
  (repeat (first | refine Spl.t rfl ?_ | refine Spl.f rfl ?_))
  (first | refine Sq.go ?_ | refine vL_nil (Sq.go ?_) | skip)
  try refine WJ.cut ?_
  refine OpJ.callV h2 (fun _ _ => rfl) rfl rfl rfl ?_
  (repeat (first | refine Spl.t rfl ?_ | refine Spl.f rfl ?_))
  (first | refine Sq.go ?_ | refine vL_nil (Sq.go ?_) | skip)
  try refine WJ.cut ?_
  refine OpJ.callV ha (fun _ _ => rfl) rfl rfl rfl ?_
  (repeat (first | refine Spl.t rfl ?_ | refine Spl.f rfl ?_))
  (first | refine Sq.go ?_ | refine vL_nil (Sq.go ?_) | skip)
  try refine WJ.cut ?_
  refine OpJ.callV h3 (fun _ _ => rfl) rfl rfl rfl ?_
  (repeat (first | refine Spl.t rfl ?_ | refine Spl.f rfl ?_))
  (first | refine Sq.go ?_ | refine vL_nil (Sq.go ?_) | skip)
  try refine WJ.cut ?_
  refine OpJ.callV hr (fun _ _ => rfl) rfl rfl rfl ?_
  (repeat (first | refine Spl.t rfl ?_ | refine Spl.f rfl ?_))
  (first | refine Sq.go ?_ | refine vL_nil (Sq.go ?_) | skip)
  try refine vc_sound _ _ _ _ ?_
  refine OpJ.callV Awake8_c (fun _ _ => rfl) rfl rfl rfl ?_
  (repeat (first | refine Spl.t rfl ?_ | refine Spl.f rfl ?_))
  refine OpJ.qu (O.eqT 3 rfl rfl rfl rfl rfl eqI_ok eqI_g (eqI ⟨2, 1⟩ ⟨2, 1⟩)) rfl ?_
  exact FinP.open rfl (congrArg bv (by simp))
set_option maxHeartbeats 1000000 in
theorem CursorTells_c (acts : List ACT) (hacts : ∀ x, x ∈ acts → okAct x) (at_ by_ : Int) (hat : at_ ≤ 9223372036854775807) (hb0 : -9223372036854775808 ≤ by_) (hb1 : by_ ≤ 9223372036854775807) (a : ID) :
    Cv 6 [.d (.sl 10 (acts.map actD)), iv at_, iv by_, idv a] (bv true) := by
  obtain ⟨hv, _⟩ := play_ok acts
  have his := hv.is
  refine Ct.of_wv Tryz.f6 Tryz.func6 rfl rfl fun w H B g0 => ?_
  try refine WJ.cut ?_
  (first | refine Sq.go ?_ | refine vL_nil (Sq.go ?_) | skip)
  try refine WJ.cut ?_
  refine Spl.of (fun g1 => ?_) (fun g1 => ?_)
  · (repeat (first | refine Spl.t rfl ?_ | refine Spl.f rfl ?_))
    refine OpJ.callV Awake11_c (fun _ _ => rfl) rfl rfl rfl ?_
    (repeat (first | refine Spl.t rfl ?_ | refine Spl.f rfl ?_))
    refine .out (by simp) ?_
    exact FinP.open rfl rfl
  have hw : acts.length ≤ 30 := by have := of_decide_eq_false g1; simp at this; omega
  have hpl := played_c acts (by omega) hacts
  have ca := CAt_c his (playA acts).R at_
  have ra := RCAt_c his.dn (playA acts).R at_ hat
  have cr := fun c => CResolve_c his (playA acts).R c
  have rr := fun c => RCResolve_c his.dn (playA acts).R c
  have cl := fun c => CAlive_c his (playA acts).R c
  have rl := fun c => RCAlive_c his.dn (playA acts).R c
  have cm := fun c => CMove_c his (playA acts).R c by_ hb0 hb1
  have rm := fun c => RCMove_c his.dn (playA acts).R c by_ hb0 hb1
  generalize rowE (playA acts).l = L at ca ra cr rr cl rl cm rm
  generalize playA acts = v at *
  generalize curAt L at_ = p at ca ra
  obtain ⟨b, e⟩ := p
  simp only at ca ra
  (repeat (first | refine Spl.t rfl ?_ | refine Spl.f rfl ?_))
  (first | refine Sq.go ?_ | refine vL_nil (Sq.go ?_) | skip)
  try refine WJ.cut ?_
  refine OpJ.callV hpl (fun _ _ => rfl) rfl rfl rfl ?_
  (repeat (first | refine Spl.t rfl ?_ | refine Spl.f rfl ?_))
  (first | refine Sq.go ?_ | refine vL_nil (Sq.go ?_) | skip)
  try refine WJ.cut ?_
  (repeat (first | refine Spl.t rfl ?_ | refine Spl.f rfl ?_))
  (first | refine Sq.go ?_ | refine vL_nil (Sq.go ?_) | skip)
  try refine WJ.cut ?_
  refine OpJ.callV ca (fun _ _ => rfl) rfl rfl rfl ?_
  (repeat (first | refine Spl.t rfl ?_ | refine Spl.f rfl ?_))
  (first | refine Sq.go ?_ | refine vL_nil (Sq.go ?_) | skip)
  try refine WJ.cut ?_
  refine OpJ.callV ra (fun _ _ => rfl) rfl rfl rfl ?_
  (repeat (first | refine Spl.t rfl ?_ | refine Spl.f rfl ?_))
  (first | refine Sq.go ?_ | refine vL_nil (Sq.go ?_) | skip)
  try refine WJ.cut ?_
  refine RegP.of rfl (by decide +kernel) ?_
  refine QuietP.of (QJ.call (Of_c b) (fun _ _ => rfl) rfl rfl) ?_
  refine QuietP.of (O.neT 3 rfl rfl rfl rfl rfl eqR_ok eqR_g (eqR b b)) ?_
  refine Spl.f (by simp) ?_
  (repeat (first | refine Spl.t rfl ?_ | refine Spl.f rfl ?_))
  refine Spl.f (by simp) ?_
  (repeat (first | refine Spl.t rfl ?_ | refine Spl.f rfl ?_))
  (first | refine Sq.go ?_ | refine vL_nil (Sq.go ?_) | skip)
  try refine WJ.cut ?_
  refine WJ.loopK (V := Nat) (fun i => [(63, iv i)]) (fun _ => []) [] (fun i => 2 - i) (fun i => i ≤ 2) 0 (by omega) (by repeat' (first | exact trivial | exact rfl | refine And.intro ?_ ?_)) (by repeat' (first | exact trivial | exact rfl | refine And.intro ?_ ?_)) ?_
  intro i hi
  refine Spl.of (fun h1 => ?_) (fun h1 => ?_)
  · have hlt : i < 2 := by have := of_decide_eq_true h1; change (i : Int) < 2 at this; omega
    obtain ⟨c, hc⟩ : ∃ c : ID, ([idD b, idD a])[i]? = some (idD c) := by
      match i, hlt with
      | 0, _ => exact ⟨b, rfl⟩
      | 1, _ => exact ⟨a, rfl⟩
    have cr := cr c
    have rr := rr c
    have cl := cl c
    have rl := rl c
    have cm := cm c
    have rm := rm c
    generalize resC L c = p1 at cr rr
    generalize aliveC L c = p2 at cl rl
    generalize movC L c by_ = p3 at cm rm
    obtain ⟨m1, m2⟩ := p1
    obtain ⟨n1, n2⟩ := p3
    simp only at cr rr cm rm
    (repeat (first | refine Spl.t rfl ?_ | refine Spl.f rfl ?_))
    refine IdxP.of (idD c) (by omega) hc ?_
    (repeat (first | refine Spl.t rfl ?_ | refine Spl.f rfl ?_))
    refine OpJ.callV cr (fun _ _ => rfl) rfl rfl rfl ?_
    (repeat (first | refine Spl.t rfl ?_ | refine Spl.f rfl ?_))
    refine RegP.mixS 10 [] rfl (by decide +kernel) ?_
    refine QuietP.of (QJ.call (Of_c c) (fun _ _ => rfl) rfl rfl) ?_
    refine QuietP.of (QJ.call rr (fun _ _ => rfl) rfl rfl) ?_
    (repeat (first | refine Spl.t rfl ?_ | refine Spl.f rfl ?_))
    refine RegP.of rfl (by decide +kernel) ?_
    refine Spl.f (by simp) ?_
    (repeat (first | refine Spl.t rfl ?_ | refine Spl.f rfl ?_))
    refine Spl.f (by simp) ?_
    (repeat (first | refine Spl.t rfl ?_ | refine Spl.f rfl ?_))
    refine QuietP.of (QJ.call cl (fun _ _ => rfl) rfl rfl) ?_
    (repeat (first | refine Spl.t rfl ?_ | refine Spl.f rfl ?_))
    refine QuietP.of (QJ.call (Of_c c) (fun _ _ => rfl) rfl rfl) ?_
    (repeat (first | refine Spl.t rfl ?_ | refine Spl.f rfl ?_))
    refine QuietP.of (QJ.call rl (fun _ _ => rfl) rfl rfl) ?_
    (repeat (first | refine Spl.t rfl ?_ | refine Spl.f rfl ?_))
    refine Spl.f (by simp) ?_
    (repeat (first | refine Spl.t rfl ?_ | refine Spl.f rfl ?_))
    refine OpJ.callV cm (fun _ _ => rfl) rfl rfl rfl ?_
    (repeat (first | refine Spl.t rfl ?_ | refine Spl.f rfl ?_))
    refine RegP.mixT 12 [] rfl (by decide +kernel) ?_
    refine QuietP.of (QJ.call (Of_c c) (fun _ _ => rfl) rfl rfl) ?_
    refine QuietP.of (QJ.call rm (fun _ _ => rfl) rfl rfl) ?_
    (repeat (first | refine Spl.t rfl ?_ | refine Spl.f rfl ?_))
    refine RegP.of rfl (by decide +kernel) ?_
    refine QuietP.of (QJ.call (Of_c n1) (fun _ _ => rfl) rfl rfl) ?_
    refine QuietP.of (O.neT 3 rfl rfl rfl rfl rfl eqR_ok eqR_g (eqR n1 n1)) ?_
    refine Spl.f (by simp) ?_
    (repeat (first | refine Spl.t rfl ?_ | refine Spl.f rfl ?_))
    refine Spl.f (by simp) ?_
    (repeat (first | refine Spl.t rfl ?_ | refine Spl.f rfl ?_))
    exact ⟨i + 1, by omega, by omega, ⟨some_iv (wrap_id _ (by omega) (by omega)), trivial⟩, (by repeat' (first | exact trivial | exact rfl | refine And.intro ?_ ?_)), (by repeat' (first | exact trivial | exact rfl | refine And.intro ?_ ?_)), (by repeat' (first | exact trivial | exact rfl | refine And.intro ?_ ?_))⟩
  · (repeat (first | refine Spl.t rfl ?_ | refine Spl.f rfl ?_))
    (first | refine Sq.go ?_ | refine vL_nil (Sq.go ?_) | skip)
    try refine vc_sound _ _ _ _ ?_
    refine OpJ.callV Awake11_c (fun _ _ => rfl) rfl rfl rfl ?_
    exact FinP.open rfl rfl
end Go.Proofs.E
end
