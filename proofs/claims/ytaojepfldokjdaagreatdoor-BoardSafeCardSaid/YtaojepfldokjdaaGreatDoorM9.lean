/- Laws that the claim's text stands on: A new board; the example of boards; Threads that keep to the locks have no race: the trace of a board; The law BoardSafe: threads that keep to the locks have no race; The law BoardSafe: its walk; BoardSafe as the statement gives its arguments. -/
import Derived.Test.YtaojepfldokjdaaGreatDoorM1
import Derived.Test.YtaojepfldokjdaaGreatDoorM2
import Derived.Test.YtaojepfldokjdaaGreatDoorM3
import Derived.Test.YtaojepfldokjdaaGreatDoorDShelf
import Derived.Test.YtaojepfldokjdaaGreatDoorM4
import Derived.Test.YtaojepfldokjdaaGreatDoorM5
import Derived.Test.YtaojepfldokjdaaGreatDoorM6
import Derived.Test.YtaojepfldokjdaaGreatDoorM7
import Derived.Test.YtaojepfldokjdaaGreatDoorM8
set_option linter.unusedVariables false
set_option linter.unusedSimpArgs false
section
open Go Go.Gv
attribute [local irreducible] Go.Gv.WJ Go.Gv.OpJ Go.Gv.QJ Go.Gv.Spl Go.Gv.Req Go.Gv.IdxP Go.Gv.RegP Go.Gv.FinP Go.Gv.CellP Go.Gv.CellsP Go.Gv.ArrP Go.Gv.ArrsP Go.Gv.DropP Go.Gv.ByteP Go.Gv.StoreP
set_option maxRecDepth 100000
namespace Go.Proofs.E
attribute [local irreducible] elems LookP PutP
abbrev nilS : AV := .d (.v (.slice none 0 0))
abbrev nilP : AV := .d (.v (.pointer none))
/-- The board of nothing. -/
abbrev bdZ : AV := .agg [nilS, iv 0, iv 0, bv false, iv 0, nilP, nilP, iv 0, nilS, iv 0, iv 0, cx 0 0, cx 0 0, bv false, .d (.v (.map none)), bv false, nilS]
def badB (site stripes room : Int) : Prop := site < 1 ∨ site > 1000 ∨ stripes < 1 ∨ stripes > 8 ∨ room < 1 ∨ room > 16
theorem BNewE_c (site stripes room : Int) (h : badB site stripes room) : Cv 9 [iv site, iv stripes, iv room] (.tup [bdZ, iv 2]) := by
  have hn := New_c site
  refine Ct.of_vc Tryz.f9 Tryz.func9 rfl rfl fun w H B g0 => ?_
  refine OpJ.callV hn (fun _ _ => rfl) rfl rfl rfl ?_
  (repeat (first | refine Spl.t rfl ?_ | refine Spl.f rfl ?_))
  by_cases hs : site < 1 ∨ site > 1000
  · rw [if_pos hs, if_pos hs]
    (repeat (first | refine Spl.t rfl ?_ | refine Spl.f rfl ?_))
    exact FinP.open rfl rfl
  · rw [if_neg hs, if_neg hs]
    (repeat (first | refine Spl.t rfl ?_ | refine Spl.f rfl ?_))
    refine Spl.of (fun h1 => ?_) (fun h1 => ?_)
    · (repeat (first | refine Spl.t rfl ?_ | refine Spl.f rfl ?_))
      exact FinP.open rfl rfl
    (repeat (first | refine Spl.t rfl ?_ | refine Spl.f rfl ?_))
    refine Spl.of (fun h2 => ?_) (fun h2 => ?_)
    · (repeat (first | refine Spl.t rfl ?_ | refine Spl.f rfl ?_))
      exact FinP.open rfl rfl
    (repeat (first | refine Spl.t rfl ?_ | refine Spl.f rfl ?_))
    refine Spl.of (fun h3 => ?_) (fun h3 => ?_)
    · (repeat (first | refine Spl.t rfl ?_ | refine Spl.f rfl ?_))
      exact FinP.open rfl rfl
    (repeat (first | refine Spl.t rfl ?_ | refine Spl.f rfl ?_))
    refine Spl.of (fun h4 => ?_) (fun h4 => ?_)
    · (repeat (first | refine Spl.t rfl ?_ | refine Spl.f rfl ?_))
      exact FinP.open rfl rfl
    exfalso
    have h1 := of_decide_eq_false h1
    have h2 := of_decide_eq_false h2
    have h3 := of_decide_eq_false h3
    have h4 := of_decide_eq_false h4
    unfold badB at h
    omega
theorem sl_view {γ : Ids} {H : HF} {k : Nat} {xs ys : List (List D)} {u : Value} (hl : ys.length = xs.length) (hk : ∀ cs, cs ∈ ys → cs.length = k)
    (hv : ∀ (j i : Nat) (cs : List D) (a : D), ys[j]? = some cs → cs[i]? = some a → ∃ cs0 a0, xs[j]? = some cs0 ∧ cs0[i]? = some a0 ∧ ∀ v, RepD H a0 v → RepD H a v) (r : Rep γ H (.d (.sl k xs)) u) : Rep γ H (.d (.sl k ys)) u := by
  cases rep_d r with
  | sl _ _ A c b o us _ hn hc hA hH h =>
    rw [← hl] at hn hc hA hH ⊢
    refine .d _ _ (.sl k ys A c b o us hk hn hc hA hH fun j i cs a h1 h2 => ?_)
    obtain ⟨cs0, a0, h3, h4, h5⟩ := hv j i cs a h1 h2
    exact h5 _ (h j i cs0 a0 h3 h4)
abbrev rawS : List D := [.v (.int .i64 (-1)), .v (.slice none 0 0), .v (.bool false)]
theorem raw_view {γ : Ids} {H : HF} (n : Nat) {u : Value} (r : Rep γ H (.d (.sl 3 (List.replicate n rawS))) u) : Rep γ H (.d (.sl 3 ((List.replicate n (⟨-1, [], false⟩ : ST)).map stD))) u := by
  refine sl_view (by simp) (fun cs hcs => ?_) (fun j i cs a h1 h2 => ?_) r
  · obtain ⟨x, _, rfl⟩ := List.mem_map.1 hcs; rfl
  · rw [List.map_replicate, List.getElem?_replicate] at h1
    split at h1
    · next hj =>
      cases h1
      match i, h2 with
      | 0, h2 => cases h2; exact ⟨rawS, _, by rw [List.getElem?_replicate, if_pos hj], rfl, fun _ h => h⟩
      | 1, h2 =>
        cases h2
        refine ⟨rawS, _, by rw [List.getElem?_replicate, if_pos hj], rfl, fun v h => ?_⟩
        exact rep_d (nil_sl (γ := γ) 13 (.d _ _ h))
      | 2, h2 => cases h2; exact ⟨rawS, _, by rw [List.getElem?_replicate, if_pos hj], rfl, fun _ h => h⟩
    · cases h1
abbrev nbC (site room : Int) (a z : AV) : List AV := bcs' ⟨[], room, 0, false, site, vA0, false, none, false, []⟩ a (.d (.v (.map none))) z
set_option maxHeartbeats 4000000 in
theorem BNew_c (site room : Int) (n : Nat) (h : ¬ badB site n room) : Cv 9 [iv site, iv n, iv room] (.tup [bdv (newB site n room), iv 0]) := by
  have hn := New_c site
  unfold badB at h
  rw [if_neg (by omega), if_neg (by omega)] at hn
  refine Ct.of_wv Tryz.f9 Tryz.func9 rfl rfl fun w H B g0 => ?_
  (try refine WJ.cut ?_)
  (first | refine Sq.go ?_ | refine vL_nil (Sq.go ?_) | skip)
  (try refine WJ.cut ?_)
  refine OpJ.callV hn (fun _ _ => rfl) rfl rfl rfl ?_
  (first | refine Sq.go ?_ | refine vL_nil (Sq.go ?_) | skip)
  (try refine WJ.cut ?_)
  (repeat (first | refine Spl.t rfl ?_ | refine Spl.f rfl ?_))
  refine Spl.f (decide_eq_false (by omega)) ?_
  (repeat (first | refine Spl.t rfl ?_ | refine Spl.f rfl ?_))
  refine Spl.f (decide_eq_false (by omega)) ?_
  (repeat (first | refine Spl.t rfl ?_ | refine Spl.f rfl ?_))
  refine Spl.f (decide_eq_false (by omega)) ?_
  (repeat (first | refine Spl.t rfl ?_ | refine Spl.f rfl ?_))
  refine Spl.f (decide_eq_false (by omega)) ?_
  (repeat (first | refine Spl.t rfl ?_ | refine Spl.f rfl ?_))
  (first | refine Sq.go ?_ | refine vL_nil (Sq.go ?_) | skip)
  (try refine WJ.cut ?_)
  (repeat (first | refine Spl.t rfl ?_ | refine Spl.f rfl ?_))
  (first | refine Sq.go ?_ | refine vL_nil (Sq.go ?_) | skip)
  (try refine WJ.cut ?_)
  (first | refine Sq.go ?_ | refine vL_nil (Sq.go ?_) | skip)
  (try refine WJ.cut ?_)
  (first | refine Sq.go ?_ | refine vL_nil (Sq.go ?_) | skip)
  (try refine WJ.cut ?_)
  refine WJ.shift (SJ.nilCell 945 10 0 3 rfl rfl rfl) ?_
  refine WJ.loopK (V := Nat) (fun i => [(39, iv i)]) (fun i => [(10, .cells (nbC site room (.arr 945 3 i) nilS)), (945, .arr 3 (List.replicate i rawS))]) [10, 945] (fun i => n - i) (fun i => i ≤ n) 0 (Nat.zero_le _) (by repeat' (first | exact trivial | exact rfl | refine And.intro ?_ ?_)) (by repeat' (first | exact trivial | exact rfl | refine And.intro ?_ ?_)) ?_
  intro i hi
  refine Spl.of (fun h1 => ?_) (fun h1 => ?_)
  · have hlt : i < n := by have := of_decide_eq_true h1; omega
    (repeat (first | refine Spl.t rfl ?_ | refine Spl.f rfl ?_))
    refine Req.of ⟨by simp, ?_⟩ ?_
    · show i + 1 ≤ 1000000000; omega
    refine ⟨i + 1, by omega, by omega, ⟨some_iv (wrap_id _ (by omega) (by omega)), trivial⟩, (by repeat' (first | exact trivial | exact rfl | refine And.intro ?_ ?_)), ⟨rfl, ?_, trivial⟩, (by repeat' (first | exact trivial | exact rfl | refine And.intro ?_ ?_))⟩
    refine congrArg (fun x => some (Ent.arr 3 x)) ?_
    rw [List.replicate_succ']; rfl
  · have h1 := of_decide_eq_false h1
    obtain rfl : i = n := by omega
    (repeat (first | refine Spl.t rfl ?_ | refine Spl.f rfl ?_))
    (first | refine Sq.go ?_ | refine vL_nil (Sq.go ?_) | skip)
    refine WJ.shift (SJ.pubCell 945 10 0 (k := 3) (n := i) (xs := List.replicate i rawS) rfl rfl rfl (by simp) (by omega)) ?_
    have e : (List.replicate i rawS).take i = List.replicate i rawS := List.take_of_length_le (by simp)
    rw [e]
    refine WJ.shift (SJ.viewCell 10 0 rfl rfl fun _ _ _ h => raw_view i h) ?_
    refine WJ.shift (SJ.viewCell 10 16 rfl rfl fun _ _ _ h => nil_sl 3 h) ?_
    (try refine vc_sound _ _ _ _ ?_)
    (repeat (first | refine Spl.t rfl ?_ | refine Spl.f rfl ?_))
    exact FinP.open rfl rfl
theorem may15_c (k : Int) (t s sl : Int) (c : CALL) (tk ot stripes : Int) : Cv 11 [.agg [.d (.v (.int .u8 k)), iv t, iv s, iv sl, iv c.k, iv c.at_, cv' c.ch, iv c.o.k, iv c.o.i.c, iv c.o.i.s, iv c.o.a.c, iv c.o.a.s, cv' c.o.ch, iv c.a.c, iv c.a.s, iv tk, iv ot], iv stripes] (bv (decide (0 ≤ t) && (decide (t ≤ 15) && (decide (0 ≤ s) && (decide (s < stripes) && (decide (0 ≤ sl) && decide (sl ≤ 800))))))) := by
  refine Ct.of_vc Tryz.f11 Tryz.func11 rfl rfl fun w H B g0 => ?_
  refine Spl.of (fun h1 => ?_) (fun h1 => ?_)
  · (repeat (first | refine Spl.t rfl ?_ | refine Spl.f rfl ?_))
    refine Spl.of (fun h2 => ?_) (fun h2 => ?_)
    · (repeat (first | refine Spl.t rfl ?_ | refine Spl.f rfl ?_))
      refine Spl.of (fun h3 => ?_) (fun h3 => ?_)
      · (repeat (first | refine Spl.t rfl ?_ | refine Spl.f rfl ?_))
        refine Spl.of (fun h4 => ?_) (fun h4 => ?_)
        · (repeat (first | refine Spl.t rfl ?_ | refine Spl.f rfl ?_))
          refine Spl.of (fun h5 => ?_) (fun h5 => ?_)
          · (repeat (first | refine Spl.t rfl ?_ | refine Spl.f rfl ?_))
            exact FinP.open rfl (congrArg bv (by rw [h1, h2, h3, h4, h5]; rfl))
          · (repeat (first | refine Spl.t rfl ?_ | refine Spl.f rfl ?_))
            exact FinP.open rfl (congrArg bv (by rw [h1, h2, h3, h4, h5]; rfl))
        · (repeat (first | refine Spl.t rfl ?_ | refine Spl.f rfl ?_))
          exact FinP.open rfl (congrArg bv (by rw [h1, h2, h3, h4]; rfl))
      · (repeat (first | refine Spl.t rfl ?_ | refine Spl.f rfl ?_))
        exact FinP.open rfl (congrArg bv (by rw [h1, h2, h3]; rfl))
    · (repeat (first | refine Spl.t rfl ?_ | refine Spl.f rfl ?_))
      exact FinP.open rfl (congrArg bv (by rw [h1, h2]; rfl))
  · (repeat (first | refine Spl.t rfl ?_ | refine Spl.f rfl ?_))
    exact FinP.open rfl (congrArg bv (by rw [h1]; rfl))
def bA1 : BD := ((newB 1 1 1).setS 0 ⟨0, [], false⟩).did 0 [(2, 1000)]
set_option maxHeartbeats 4000000 in
theorem Awake15_c : Cv 10 [] (bv true) := by
  have hn := BNew_c 1 1 1 (by unfold badB; omega)
  have h1 := Lock_c (newB 1 1 1) 0 0 (x := ⟨-1, [], false⟩) rfl (by decide) (by decide)
  rw [if_pos rfl] at h1
  have h2 := Lock_c bA1 1 0 (x := ⟨0, [], false⟩) rfl (by decide) (by decide)
  rw [if_neg (by decide)] at h2
  have h3 := Holder_c bA1 0
  refine Ct.of_vc Tryz.f10 Tryz.func10 rfl rfl fun w H B g0 => ?_
  refine OpJ.callV hn (fun _ _ => rfl) rfl rfl rfl ?_
  (repeat (first | refine Spl.t rfl ?_ | refine Spl.f rfl ?_))
  refine OpJ.callV h1 (fun _ _ => rfl) rfl rfl rfl ?_
  (repeat (first | refine Spl.t rfl ?_ | refine Spl.f rfl ?_))
  refine OpJ.callV h2 (fun _ _ => rfl) rfl rfl rfl ?_
  (repeat (first | refine Spl.t rfl ?_ | refine Spl.f rfl ?_))
  refine OpJ.callV Awake12_c (fun _ _ => rfl) rfl rfl rfl ?_
  (repeat (first | refine Spl.t rfl ?_ | refine Spl.f rfl ?_))
  refine OpJ.callV Awake14_c (fun _ _ => rfl) rfl rfl rfl ?_
  (repeat (first | refine Spl.t rfl ?_ | refine Spl.f rfl ?_))
  refine OpJ.callV h3 (fun _ _ => rfl) rfl rfl rfl ?_
  (repeat (first | refine Spl.t rfl ?_ | refine Spl.f rfl ?_))
  exact FinP.open rfl rfl
end Go.Proofs.E
end
section
open Go Go.Gv
attribute [local irreducible] Go.Gv.WJ Go.Gv.OpJ Go.Gv.QJ Go.Gv.Spl Go.Gv.Req Go.Gv.IdxP Go.Gv.RegP Go.Gv.FinP Go.Gv.CellP Go.Gv.CellsP Go.Gv.ArrP Go.Gv.ArrsP Go.Gv.DropP Go.Gv.ByteP Go.Gv.StoreP
set_option maxRecDepth 100000
namespace Go.Proofs.E
def accAt (p : Int) (a : TA) : Bool := accA a && decide (a.loc = p)
def wrAt (p : Int) (a : TA) : Bool := wrA a && decide (a.loc = p)
def updN (f : Nat → Int) (s : Nat) (v : Int) : Nat → Int := fun j => if j = s then v else f j
def updB (f : Int → Bool) (k : Int) : Int → Bool := fun j => if j = k then true else f j
structure TInv (n : Nat) (tr : List TA) (hold : Nat → Int) (slot : Int → Bool) : Prop where
  may : ∀ a, a ∈ tr → mayA a = true
  rf : RF tr
  lf : ∀ s, s < n → hold s = -1 → KS tr (1000 + (s : Int)) (accAt s)
  lk : ∀ s, s < n → 0 ≤ hold s → KN tr (hold s) (accAt s)
  st : ∀ k, 0 ≤ k → k ≤ 800 → slot k = true → KS tr (3000 + k) (wrAt (100 + k))
  sf : ∀ k, 0 ≤ k → k ≤ 800 → slot k = false → ∀ a, a ∈ tr → accA a = true → a.loc ≠ 100 + k
theorem TInv.nil (n : Nat) (hold : Nat → Int) : TInv n [] hold (fun _ => false) :=
  ⟨fun _ h => by simp at h, RF.nil, fun _ _ _ => KS.none fun _ h => by simp at h, fun _ _ _ => KN.none fun _ h => by simp at h, fun _ _ _ h => by simp at h, fun _ _ _ _ _ h => by simp at h⟩
theorem may_snoc {tr : List TA} (h : ∀ a, a ∈ tr → mayA a = true) {a : TA} (ha : mayA a = true) : ∀ b, b ∈ tr ++ [a] → mayA b = true := fun b hb => by
  rcases List.mem_append.1 hb with h1 | h1
  · exact h b h1
  · rw [List.mem_singleton.1 h1]; exact ha
theorem mayK {t k : Int} (ht : 0 ≤ t ∧ t ≤ 15) (h0 : 0 ≤ k) (h1 : k ≤ 3) (loc : Int) : mayA ⟨t, k, loc⟩ = true := (mayA_iff _).2 ⟨ht.1, by show t < 16; omega, h0, h1⟩
theorem accAt_no {a : TA} (h : accA a = false) (p : Int) : accAt p a = false := by unfold accAt; rw [h]; rfl
theorem wrAt_no {a : TA} (h : accA a = false) (p : Int) : wrAt p a = false := by
  unfold accA at h
  rw [Bool.or_eq_false_iff] at h
  unfold wrAt wrA; rw [h.2]; rfl
theorem accAt_loc {a : TA} {p : Int} (h : a.loc ≠ p) : accAt p a = false := by unfold accAt; rw [decide_eq_false h, Bool.and_false]
theorem wrAt_loc {a : TA} {p : Int} (h : a.loc ≠ p) : wrAt p a = false := by unfold wrAt; rw [decide_eq_false h, Bool.and_false]
theorem sf_snoc {tr : List TA} {p : Int} (h : ∀ a, a ∈ tr → accA a = true → a.loc ≠ p) {a : TA} (ha : accA a = true → a.loc ≠ p) : ∀ b, b ∈ tr ++ [a] → accA b = true → b.loc ≠ p := fun b hb => by
  rcases List.mem_append.1 hb with h1 | h1
  · exact h b h1
  · rw [List.mem_singleton.1 h1]; exact ha
/-- An act that is no access, the locks as they were. -/
theorem TInv.sync {n : Nat} {tr : List TA} {hold : Nat → Int} {slot : Int → Bool} (h : TInv n tr hold slot) {a : TA} (ha : mayA a = true) (hn : accA a = false) : TInv n (tr ++ [a]) hold slot :=
  ⟨may_snoc h.may ha, h.rf.no hn, fun s hs he => (h.lf s hs he).snoc a (accAt_no hn _), fun s hs he => (h.lk s hs he).snoc a (fun e => by rw [accAt_no hn] at e; cases e),
    fun k k0 k1 he => (h.st k k0 k1 he).snoc a (wrAt_no hn _), fun k k0 k1 he => sf_snoc (h.sf k k0 k1 he) (fun e => by rw [hn] at e; cases e)⟩
theorem TInv.lock {n : Nat} {tr : List TA} {hold : Nat → Int} {slot : Int → Bool} (h : TInv n tr hold slot) {t : Int} {s : Nat} (ht : 0 ≤ t ∧ t ≤ 15) (hs : s < n) (he : hold s = -1) : TInv n (tr ++ [⟨t, 2, 1000 + (s : Int)⟩]) (updN hold s t) slot := by
  have ha : mayA ⟨t, 2, 1000 + (s : Int)⟩ = true := mayK ht (by decide) (by decide) _
  have hn : accA ⟨t, 2, 1000 + (s : Int)⟩ = false := rfl
  have h2 := h.sync ha hn
  refine ⟨h2.may, h2.rf, fun s' hs' he' => ?_, fun s' hs' he' => ?_, h2.st, h2.sf⟩
  · unfold updN at he'
    split at he'
    · omega
    · exact h2.lf s' hs' he'
  · unfold updN at he' ⊢
    by_cases e : s' = s
    · subst e
      rw [if_pos rfl]
      exact KS.acq (a := ⟨t, 2, 1000 + (s' : Int)⟩) (h.lf s' hs he) rfl
    · rw [if_neg e] at he' ⊢
      exact h2.lk s' hs' he'
theorem TInv.unlock {n : Nat} {tr : List TA} {hold : Nat → Int} {slot : Int → Bool} (h : TInv n tr hold slot) {t : Int} {s : Nat} (ht : 0 ≤ t ∧ t ≤ 15) (hs : s < n) (he : hold s = t) : TInv n (tr ++ [⟨t, 3, 1000 + (s : Int)⟩]) (updN hold s (-1)) slot := by
  have ha : mayA ⟨t, 3, 1000 + (s : Int)⟩ = true := mayK ht (by decide) (by decide) _
  have hn : accA ⟨t, 3, 1000 + (s : Int)⟩ = false := rfl
  have h2 := h.sync ha hn
  refine ⟨h2.may, h2.rf, fun s' hs' he' => ?_, fun s' hs' he' => ?_, h2.st, h2.sf⟩
  · unfold updN at he'
    by_cases e : s' = s
    · subst e
      have := h.lk s' hs (by omega)
      rw [he] at this
      exact KN.rel (a := ⟨t, 3, 1000 + (s' : Int)⟩) this rfl
    · rw [if_neg e] at he'
      exact h2.lf s' hs' he'
  · unfold updN at he' ⊢
    by_cases e : s' = s
    · rw [if_pos e] at he'; omega
    · rw [if_neg e] at he' ⊢
      exact h2.lk s' hs' he'
theorem clash_acc {a b : TA} (h : clashA b a = true) : accA b = true ∧ accA a = true ∧ b.loc = a.loc ∧ (wrA b || wrA a) = true := by
  unfold clashA at h
  rw [Bool.and_eq_true, Bool.and_eq_true, Bool.and_eq_true, decide_eq_true_iff] at h
  exact ⟨h.1.1.1, h.1.1.2, h.1.2, h.2⟩
/-- An access to a queue by who has its lock. -/
theorem TInv.acc {n : Nat} {tr : List TA} {hold : Nat → Int} {slot : Int → Bool} (h : TInv n tr hold slot) (hn8 : n ≤ 8) {t k : Int} {s : Nat} (ht : 0 ≤ t ∧ t ≤ 15) (hk : k = 0 ∨ k = 1) (hs : s < n) (he : hold s = t) : TInv n (tr ++ [⟨t, k, (s : Int)⟩]) hold slot := by
  have ha : mayA ⟨t, k, (s : Int)⟩ = true := mayK ht (by omega) (by omega) _
  have hkn := h.lk s hs (by omega)
  rw [he] at hkn
  refine ⟨may_snoc h.may ha, RF.acc (φ := accAt s) h.rf hkn fun b hc => ?_, fun s' hs' he' => ?_, fun s' hs' he' => ?_, fun j j0 j1 hj => ?_, fun j j0 j1 hj => ?_⟩
  · obtain ⟨c1, _, c3, _⟩ := clash_acc hc
    have c3 : b.loc = (s : Int) := c3
    unfold accAt; rw [c1, decide_eq_true c3]; rfl
  · exact (h.lf s' hs' he').snoc _ (accAt_loc (by show (s : Int) ≠ s'; intro e; have : s = s' := by omega
                                                  subst this; omega))
  · refine (h.lk s' hs' he').snoc _ fun e => ?_
    by_cases e2 : s' = s
    · subst e2; exact he.symm
    · rw [accAt_loc (by show (s : Int) ≠ s'; omega)] at e; cases e
  · exact (h.st j j0 j1 hj).snoc _ (wrAt_loc (by show (s : Int) ≠ 100 + j; omega))
  · exact sf_snoc (h.sf j j0 j1 hj) fun _ => by show (s : Int) ≠ 100 + j; omega
theorem TInv.fill {n : Nat} {tr : List TA} {hold : Nat → Int} {slot : Int → Bool} (h : TInv n tr hold slot) (hn8 : n ≤ 8) {t k : Int} (ht : 0 ≤ t ∧ t ≤ 15) (k0 : 0 ≤ k) (k1 : k ≤ 800) (he : slot k = false) : TInv n (tr ++ [⟨t, 1, 100 + k⟩] ++ [⟨t, 3, 3000 + k⟩]) hold (updB slot k) := by
  have ha : mayA ⟨t, 1, 100 + k⟩ = true := mayK ht (by decide) (by decide) _
  have hb : mayA ⟨t, 3, 3000 + k⟩ = true := mayK ht (by decide) (by decide) _
  have hno := h.sf k k0 k1 he
  have hw : KN (tr ++ [⟨t, 1, 100 + k⟩]) t (wrAt (100 + k)) := KN.snoc (KN.none fun b hb => by
    cases e : wrAt (100 + k) b with
    | false => rfl
    | true =>
      unfold wrAt at e
      rw [Bool.and_eq_true, decide_eq_true_iff] at e
      exact absurd e.2 (hno b hb (by unfold accA; unfold wrA at e; rw [e.1]; simp))) _ fun _ => rfl
  have rf1 : RF (tr ++ [⟨t, 1, 100 + k⟩]) := h.rf.snoc _ fun i b hi hc => by
    obtain ⟨c1, _, c3, _⟩ := clash_acc hc
    exact absurd c3 (hno b (List.mem_of_getElem? hi) c1)
  refine ⟨may_snoc (may_snoc h.may ha) hb, rf1.no rfl, fun s hs e => ?_, fun s hs e => ?_, fun j j0 j1 hj => ?_, fun j j0 j1 hj => ?_⟩
  · exact ((h.lf s hs e).snoc _ (accAt_loc (by show 100 + k ≠ (s : Int); omega))).snoc _ (accAt_no rfl _)
  · exact ((h.lk s hs e).snoc _ fun x => by rw [accAt_loc (by show 100 + k ≠ (s : Int); omega)] at x; cases x).snoc _ fun x => by rw [accAt_no rfl] at x; cases x
  · by_cases e : j = k
    · subst e
      exact KN.rel (a := ⟨t, 3, 3000 + j⟩) hw rfl
    · unfold updB at hj
      rw [if_neg e] at hj
      exact ((h.st j j0 j1 hj).snoc _ (wrAt_loc (by show 100 + k ≠ 100 + j; omega))).snoc _ (wrAt_no rfl _)
  · unfold updB at hj
    split at hj
    · cases hj
    · next e => exact sf_snoc (sf_snoc (h.sf j j0 j1 hj) fun _ => by show 100 + k ≠ 100 + j; omega) fun x => by cases x
theorem TInv.fetch {n : Nat} {tr : List TA} {hold : Nat → Int} {slot : Int → Bool} (h : TInv n tr hold slot) (hn8 : n ≤ 8) {t k : Int} (ht : 0 ≤ t ∧ t ≤ 15) (k0 : 0 ≤ k) (k1 : k ≤ 800) (he : slot k = true) : TInv n (tr ++ [⟨t, 2, 3000 + k⟩] ++ [⟨t, 0, 100 + k⟩]) hold slot := by
  have ha : mayA ⟨t, 2, 3000 + k⟩ = true := mayK ht (by decide) (by decide) _
  have hb : mayA ⟨t, 0, 100 + k⟩ = true := mayK ht (by decide) (by decide) _
  have h2 := h.sync ha rfl
  have hkn : KN (tr ++ [⟨t, 2, 3000 + k⟩]) t (wrAt (100 + k)) := KS.acq (a := ⟨t, 2, 3000 + k⟩) (h.st k k0 k1 he) rfl
  refine ⟨may_snoc h2.may hb, RF.acc (φ := wrAt (100 + k)) h2.rf hkn fun b hc => ?_, fun s hs e => ?_, fun s hs e => ?_, fun j j0 j1 hj => ?_, fun j j0 j1 hj => ?_⟩
  · obtain ⟨c1, _, c3, c4⟩ := clash_acc hc
    have c3 : b.loc = 100 + k := c3
    have c4 : wrA b = true := by
      rw [Bool.or_eq_true] at c4
      exact c4.resolve_right (by simp [wrA])
    unfold wrAt; rw [c4, decide_eq_true c3]; rfl
  · exact (h2.lf s hs e).snoc _ (accAt_loc (by show 100 + k ≠ (s : Int); omega))
  · exact (h2.lk s hs e).snoc _ fun x => by rw [accAt_loc (by show 100 + k ≠ (s : Int); omega)] at x; cases x
  · exact (h2.st j j0 j1 hj).snoc _ (by unfold wrAt wrA; rfl)
  · by_cases e : j = k
    · subst e; rw [he] at hj; cases hj
    · exact sf_snoc (h2.sf j j0 j1 hj) fun _ => by show 100 + k ≠ 100 + j; omega
end Go.Proofs.E
end
section
open Go Go.Gv
attribute [local irreducible] Go.Gv.WJ Go.Gv.OpJ Go.Gv.QJ Go.Gv.Spl Go.Gv.Req Go.Gv.IdxP Go.Gv.RegP Go.Gv.FinP Go.Gv.CellP Go.Gv.CellsP Go.Gv.ArrP Go.Gv.ArrsP Go.Gv.DropP Go.Gv.ByteP Go.Gv.StoreP
set_option maxRecDepth 100000
namespace Go.Proofs.E
attribute [local irreducible] elems LookP PutP
structure BA where
  k : Int
  t : Int
  s : Int
  sl : Int
  c : CALL
  tk : Int
  ot : Int
abbrev baD (a : BA) : List D := [.v (.int .u8 a.k), .v (.int .i64 a.t), .v (.int .i64 a.s), .v (.int .i64 a.sl), .v (.int .i64 a.c.k), .v (.int .i64 a.c.at_), .v (.int .i32 a.c.ch), .v (.int .i64 a.c.o.k), .v (.int .i64 a.c.o.i.c), .v (.int .i64 a.c.o.i.s), .v (.int .i64 a.c.o.a.c), .v (.int .i64 a.c.o.a.s), .v (.int .i32 a.c.o.ch), .v (.int .i64 a.c.a.c), .v (.int .i64 a.c.a.s), .v (.int .i64 a.tk), .v (.int .i64 a.ot)]
def holdN (b : BD) (s : Nat) : Int := match b.st[s]? with
  | some x => x.h
  | none => -1
def slotB (b : BD) (k : Int) : Bool := (b.slot k).isSome
structure BI (n i : Nat) (b : BD) (F : List (Int × Int)) : Prop where
  ln : b.st.length = n
  n8 : n ≤ 8
  ti : TInv n b.tr (holdN b) (slotB b)
  tl : b.tr.length ≤ 10 * i
  t0 : 0 ≤ b.tk
  t1 : b.tk ≤ i
  q : ∀ (s : Nat) (x : ST), b.st[s]? = some x → x.q.length ≤ i
  f : ∀ k, alook k F = if slotB b k = true then some 1 else none
theorem BI.up {n i : Nat} {b : BD} {F : List (Int × Int)} (h : BI n i b F) : BI n (i + 1) b F :=
  ⟨h.ln, h.n8, h.ti, by have := h.tl; omega, h.t0, by have := h.t1; omega, fun s x hx => by have := h.q s x hx; omega, h.f⟩
theorem updN_same {f : Nat → Int} {s : Nat} {v : Int} (h : f s = v) : updN f s v = f := funext fun j => by
  unfold updN
  split
  · next e => rw [e, h]
  · rfl
theorem hold_set {b : BD} {s : Nat} {x : ST} (hx : b.st[s]? = some x) (y : ST) : holdN (b.setS s y) = updN (holdN b) s y.h := funext fun j => by
  have hs := (List.getElem?_eq_some_iff.1 hx).1
  show (match (b.st.set s y)[j]? with | some x => x.h | none => -1) = _
  unfold updN
  rw [List.getElem?_set]
  by_cases e : s = j
  · subst e; rw [if_pos rfl, if_pos hs, if_pos rfl]
  · rw [if_neg e, if_neg fun h => e h.symm]; rfl
theorem hold_is {b : BD} {s : Nat} {x : ST} (hx : b.st[s]? = some x) : holdN b s = x.h := by unfold holdN; rw [hx]
theorem holdB_is {b : BD} {s : Nat} {x : ST} (hx : b.st[s]? = some x) : holdB b s = x.h := by unfold holdB; rw [if_pos (by omega), Int.toNat_natCast, hx]
theorem set_q {b : BD} {s m : Nat} {y : ST} (h : ∀ (s : Nat) (x : ST), b.st[s]? = some x → x.q.length ≤ m) (hy : y.q.length ≤ m) : ∀ (j : Nat) (x : ST), (b.st.set s y)[j]? = some x → x.q.length ≤ m := fun j x hx => by
  rw [List.getElem?_set] at hx
  split at hx
  · split at hx
    · cases hx; exact hy
    · cases hx
  · exact h j x hx
/-- A board's acts that keep its locks, its slots, and its tickets. -/
theorem BI.same {n i : Nat} {b : BD} {F : List (Int × Int)} (h : BI n i b F) {b' : BD} (h1 : b'.st.length = n) (h2 : TInv n b'.tr (holdN b') (slotB b)) (h3 : b'.tr.length ≤ b.tr.length + 10) (h4 : 0 ≤ b'.tk ∧ b'.tk ≤ b.tk + 1) (h5 : ∀ (s : Nat) (x : ST), b'.st[s]? = some x → x.q.length ≤ i + 1) (h6 : b'.sl = b.sl) : BI n (i + 1) b' F := by
  have e : slotB b' = slotB b := funext fun k => by unfold slotB BD.slot; rw [h6]
  have a1 := h.tl
  have a2 := h.t1
  exact ⟨h1, h.n8, by rw [e]; exact h2, by omega, h4.1, by omega, h5, by rw [e]; exact h.f⟩
theorem BI.lock {n i : Nat} {b : BD} {F : List (Int × Int)} (h : BI n i b F) {t : Int} {s : Nat} {x : ST} (ht : 0 ≤ t ∧ t ≤ 15) (hx : b.st[s]? = some x) (hs : s < n) (he : x.h = -1) : BI n (i + 1) ((b.setS s { x with h := t }).did t [(2, 1000 + (s : Int))]) F :=
  h.same (by show (b.st.set s _).length = n; rw [List.length_set]; exact h.ln) (by
    have e := hold_set hx { x with h := t }
    show TInv n (b.tr ++ [⟨t, 2, 1000 + (s : Int)⟩]) (holdN (b.setS s { x with h := t })) _
    rw [e]
    exact h.ti.lock ht hs ((hold_is hx).trans he)) (by show (b.tr ++ [_]).length ≤ _; simp) ⟨h.t0, by show b.tk ≤ _; omega⟩
    (set_q (fun s x hx => by have := h.q s x hx; omega) (by show x.q.length ≤ _; have := h.q s x hx; omega)) rfl
theorem BI.unlock {n i : Nat} {b : BD} {F : List (Int × Int)} (h : BI n i b F) {t : Int} {s : Nat} {x : ST} (ht : 0 ≤ t ∧ t ≤ 15) (hx : b.st[s]? = some x) (hs : s < n) (he : x.h = t) : BI n (i + 1) ((b.setS s { x with h := -1 }).did t [(3, 1000 + (s : Int))]) F :=
  h.same (by show (b.st.set s _).length = n; rw [List.length_set]; exact h.ln) (by
    have e := hold_set hx { x with h := -1 }
    show TInv n (b.tr ++ [⟨t, 3, 1000 + (s : Int)⟩]) (holdN (b.setS s { x with h := -1 })) _
    rw [e]
    exact h.ti.unlock ht hs ((hold_is hx).trans he)) (by show (b.tr ++ [_]).length ≤ _; simp) ⟨h.t0, by show b.tk ≤ _; omega⟩
    (set_q (fun s x hx => by have := h.q s x hx; omega) (by show x.q.length ≤ _; have := h.q s x hx; omega)) rfl
/-- .. of a stripe whose holder stays. -/
theorem hold_keep {b : BD} {s : Nat} {x : ST} (hx : b.st[s]? = some x) {y : ST} (hy : y.h = x.h) : holdN (b.setS s y) = holdN b := by
  rw [hold_set hx, updN_same ((hold_is hx).trans hy.symm)]
theorem BI.acc1 {n i : Nat} {b : BD} {F : List (Int × Int)} (h : BI n i b F) {t k : Int} {s : Nat} {x : ST} (ht : 0 ≤ t ∧ t ≤ 15) (hk : k = 0 ∨ k = 1) (hx : b.st[s]? = some x) (hs : s < n) (he : x.h = t) : BI n (i + 1) (b.did t [(k, (s : Int))]) F :=
  h.same h.ln (h.ti.acc h.n8 ht hk hs ((hold_is hx).trans he)) (by show (b.tr ++ [_]).length ≤ _; simp) ⟨h.t0, by show b.tk ≤ _; omega⟩ (fun s x hx => by have := h.q s x hx; omega) rfl
theorem BI.seal {n i : Nat} {b : BD} {F : List (Int × Int)} (h : BI n i b F) {t : Int} {s : Nat} {x : ST} (ht : 0 ≤ t ∧ t ≤ 15) (hx : b.st[s]? = some x) (hs : s < n) (he : x.h = t) : BI n (i + 1) ((b.setS s { x with sealed := true }).did t [(1, (s : Int))]) F :=
  h.same (by show (b.st.set s _).length = n; rw [List.length_set]; exact h.ln) (by
    have e := hold_keep hx (y := { x with sealed := true }) rfl
    show TInv n (b.tr ++ [⟨t, 1, (s : Int)⟩]) (holdN (b.setS s { x with sealed := true })) _
    rw [e]
    exact h.ti.acc h.n8 ht (.inr rfl) hs ((hold_is hx).trans he)) (by show (b.tr ++ [_]).length ≤ _; simp) ⟨h.t0, by show b.tk ≤ _; omega⟩
    (set_q (fun s x hx => by have := h.q s x hx; omega) (by show x.q.length ≤ _; have := h.q s x hx; omega)) rfl
theorem BI.pop {n i : Nat} {b : BD} {F : List (Int × Int)} (h : BI n i b F) {t tk : Int} {s : Nat} {x : ST} {e : QE} {r : List QE} (ht : 0 ≤ t ∧ t ≤ 15) (hx : b.st[s]? = some x) (hs : s < n) (he : x.h = t) (hp : popE x tk = some (e, r)) : BI n (i + 1) (((b.did t [(0, (s : Int))]).setS s { x with q := r }).did t [(1, (s : Int))]) F := by
  have hr : r.length ≤ i := by
    have := h.q s x hx
    unfold popE at hp
    split at hp
    · cases hp
    · next hq =>
      split at hp
      · cases hp; rw [hq] at this; simp at this; omega
      · cases hp
  refine h.same (by show (b.st.set s _).length = n; rw [List.length_set]; exact h.ln) (by
    have e := hold_keep (b := b) hx (y := { x with q := r }) rfl
    show TInv n ((b.tr ++ [⟨t, 0, (s : Int)⟩]) ++ [⟨t, 1, (s : Int)⟩]) (holdN (b.setS s { x with q := r })) _
    rw [e]
    exact (h.ti.acc h.n8 ht (.inl rfl) hs ((hold_is hx).trans he)).acc h.n8 ht (.inr rfl) hs ((hold_is hx).trans he)) (by show ((b.tr ++ [_]) ++ [_]).length ≤ _; simp) ⟨h.t0, by show b.tk ≤ _; omega⟩
    (set_q (fun s x hx => by have := h.q s x hx; omega) (by show r.length ≤ _; omega)) rfl
theorem BI.push {n i : Nat} {b : BD} {F : List (Int × Int)} (h : BI n i b F) {t k : Int} {c : CALL} {s : Nat} {x : ST} (ht : 0 ≤ t ∧ t ≤ 15) (hx : b.st[s]? = some x) (hs : s < n) (he : x.h = t) :
    BI n (i + 1) (({ b.did t [(0, (s : Int))] with tk := b.tk + 1 }.setS s { x with q := x.q ++ [QE.mk b.tk k c] }).did t [(2, 2000), (3, 2000), (1, (s : Int))]) F := by
  have hr := h.q s x hx
  have t0 := h.t0
  refine h.same (by show (b.st.set s _).length = n; rw [List.length_set]; exact h.ln) (by
    have e := hold_keep (b := b) hx (y := { x with q := x.q ++ [QE.mk b.tk k c] }) rfl
    show TInv n ((b.tr ++ [⟨t, 0, (s : Int)⟩]) ++ [⟨t, 2, 2000⟩, ⟨t, 3, 2000⟩, ⟨t, 1, (s : Int)⟩]) (holdN (b.setS s { x with q := x.q ++ [QE.mk b.tk k c] })) _
    rw [e, show ([⟨t, 2, 2000⟩, ⟨t, 3, 2000⟩, ⟨t, 1, (s : Int)⟩] : List TA) = [⟨t, 2, 2000⟩] ++ ([⟨t, 3, 2000⟩] ++ [⟨t, 1, (s : Int)⟩]) from rfl, ← List.append_assoc, ← List.append_assoc]
    exact ((((h.ti.acc h.n8 ht (.inl rfl) hs ((hold_is hx).trans he)).sync (mayK ht (by decide) (by decide) _) rfl).sync (mayK ht (by decide) (by decide) _) rfl).acc h.n8 ht (.inr rfl) hs ((hold_is hx).trans he))) (by show ((b.tr ++ [_]) ++ [_, _, _]).length ≤ _; simp) ⟨by show 0 ≤ b.tk + 1; omega, by show b.tk + 1 ≤ _; omega⟩
    (set_q (fun s x hx => by have := h.q s x hx; omega) (by show (x.q ++ [_]).length ≤ _; simp; omega)) rfl
theorem slot_fill (b : BD) (k : Int) (x : RS) : slotB (b.fill k x) = updB (slotB b) k := funext fun j => by
  unfold slotB BD.slot BD.fill updB
  simp only [Option.getD_some]
  rw [alook_aset]
  split <;> rfl
theorem BI.fill {n i : Nat} {b : BD} {F : List (Int × Int)} (h : BI n i b F) {t k : Int} (x : RS) (ht : 0 ≤ t ∧ t ≤ 15) (k0 : 0 ≤ k) (k1 : k ≤ 800) (he : slotB b k = false) : BI n (i + 1) ((b.fill k x).did t [(1, 100 + k), (3, 3000 + k)]) (aset k 1 F) := by
  have a1 := h.tl
  have a2 := h.t1
  have e := slot_fill b k x
  refine ⟨h.ln, h.n8, ?_, by show (b.tr ++ [_, _]).length ≤ _; simp; omega, h.t0, by show b.tk ≤ _; omega, fun s x hx => by have := h.q s x hx; omega, fun j => ?_⟩
  · show TInv n (b.tr ++ [⟨t, 1, 100 + k⟩, ⟨t, 3, 3000 + k⟩]) (holdN b) (slotB (b.fill k x))
    rw [e, show ([⟨t, 1, 100 + k⟩, ⟨t, 3, 3000 + k⟩] : List TA) = [⟨t, 1, 100 + k⟩] ++ [⟨t, 3, 3000 + k⟩] from rfl, ← List.append_assoc]
    exact h.ti.fill h.n8 ht k0 k1 he
  · show alook j (aset k 1 F) = if slotB (b.fill k x) j = true then some 1 else none
    rw [alook_aset, e]
    unfold updB
    by_cases hj : j = k
    · rw [if_pos hj, if_pos hj]; rfl
    · rw [if_neg hj, if_neg hj]; exact h.f j
theorem BI.sync {n i : Nat} {b : BD} {F : List (Int × Int)} (h : BI n i b F) {t loc : Int} (ht : 0 ≤ t ∧ t ≤ 15) : BI n (i + 1) (b.did t [(2, loc)]) F :=
  h.same h.ln (h.ti.sync (a := ⟨t, 2, loc⟩) (mayK ht (by decide) (by decide) _) rfl) (by show (b.tr ++ [_]).length ≤ _; simp) ⟨h.t0, by show b.tk ≤ _; omega⟩ (fun s x hx => by have := h.q s x hx; omega) rfl
theorem BI.fetch {n i : Nat} {b : BD} {F : List (Int × Int)} (h : BI n i b F) {t k : Int} (ht : 0 ≤ t ∧ t ≤ 15) (k0 : 0 ≤ k) (k1 : k ≤ 800) (he : slotB b k = true) : BI n (i + 1) ((b.did t [(2, 3000 + k)]).did t [(0, 100 + k)]) F :=
  h.same h.ln (h.ti.fetch h.n8 ht k0 k1 he) (by show ((b.tr ++ [_]) ++ [_]).length ≤ _; simp) ⟨h.t0, by show b.tk ≤ _; omega⟩ (fun s x hx => by have := h.q s x hx; omega) rfl
theorem BI.new {n : Nat} (h : n ≤ 8) : BI n 0 (newB 1 n 16) [] := by
  have e : slotB (newB 1 n 16) = fun _ => false := funext fun k => rfl
  refine ⟨by simp [newB], h, by rw [e]; exact TInv.nil n _, Nat.zero_le _, Int.le_refl _, Int.le_refl _, fun s x hx => ?_, fun k => by rw [e]; rfl⟩
  have := List.mem_of_getElem? hx
  rw [List.eq_of_mem_replicate this]; exact Nat.zero_le _
end Go.Proofs.E
end
section
open Go Go.Gv
attribute [local irreducible] Go.Gv.WJ Go.Gv.OpJ Go.Gv.QJ Go.Gv.Spl Go.Gv.Req Go.Gv.IdxP Go.Gv.RegP Go.Gv.FinP Go.Gv.CellP Go.Gv.CellsP Go.Gv.ArrP Go.Gv.ArrsP Go.Gv.DropP Go.Gv.ByteP Go.Gv.StoreP
set_option maxRecDepth 100000
namespace Go.Proofs.E
attribute [local irreducible] elems LookP PutP
abbrev SB (b : BD) (F : List (Int × Int)) : Sg := [(5, .cells (bcs b)), (31, .mp false (F.map fun p => kInt.val p.1) (F.map fun p => [D.v (.int .i64 p.2)]))]
theorem ba_first {l : List TA} (hl : l.length ≤ 1000) (hm : ∀ a, a ∈ l → mayA a = true) (hr : RF l) : firstE l = 0 := by
  unfold firstE
  rw [if_pos ((allMay_iff l).2 hm), (rf_iff hl hm).2 hr]
set_option maxHeartbeats 16000000 in
theorem BoardSafe_c (n : Nat) (hn : n ≤ 255) (acts : List BA) : Cv 3 [u8v n, .d (.sl 17 (acts.map baD))] (bv true) := by
  have hw : IntKind.i64.wrap (n : Int) = n := wrap_id _ (by omega) (by omega)
  by_cases hb : badB 1 n 16
  · have hne : Cv 9 [iv 1, iv (IntKind.i64.wrap (n : Int)), iv 16] (.tup [bdZ, iv 2]) := by rw [hw]; exact BNewE_c 1 n 16 hb
    refine Ct.of_vc Tryz.f3 Tryz.func3 rfl rfl fun w H B g0 => ?_
    refine OpJ.callV hne (fun _ _ => rfl) rfl rfl rfl ?_
    (repeat (first | refine Spl.t rfl ?_ | refine Spl.f rfl ?_))
    refine OpJ.callV Awake15_c (fun _ _ => rfl) rfl rfl rfl ?_
    (repeat (first | refine Spl.t rfl ?_ | refine Spl.f rfl ?_))
    exact FinP.open rfl rfl
  have hne : Cv 9 [iv 1, iv (IntKind.i64.wrap (n : Int)), iv 16] (.tup [bdv (newB 1 n 16), iv 0]) := by rw [hw]; exact BNew_c 1 16 n hb
  have hn8 : n ≤ 8 ∧ 1 ≤ n := by unfold badB at hb; omega
  refine Ct.of_vc Tryz.f3 Tryz.func3 rfl rfl fun w H B g0 => ?_
  refine OpJ.callV hne (fun _ _ => rfl) rfl rfl rfl ?_
  (repeat (first | refine Spl.t rfl ?_ | refine Spl.f rfl ?_))
  refine Spl.of (fun h1 => ?_) (fun h1 => ?_)
  · (repeat (first | refine Spl.t rfl ?_ | refine Spl.f rfl ?_))
    refine OpJ.callV Awake15_c (fun _ _ => rfl) rfl rfl rfl ?_
    (repeat (first | refine Spl.t rfl ?_ | refine Spl.f rfl ?_))
    exact FinP.open rfl rfl
  have h1 := of_decide_eq_false h1
  simp at h1
  (repeat (first | refine Spl.t rfl ?_ | refine Spl.f rfl ?_))
  refine WJ.loopK (V := Nat × BD × List (Int × Int)) (fun v => [(34, iv v.1)]) (fun v => SB v.2.1 v.2.2) [5, 31] (fun v => acts.length - v.1) (fun v => v.1 ≤ acts.length ∧ BI n v.1 v.2.1 v.2.2) (0, newB 1 n 16, []) ⟨Nat.zero_le _, BI.new hn8.1⟩ (by repeat' (first | exact trivial | exact rfl | refine And.intro ?_ ?_)) (by repeat' (first | exact trivial | exact rfl | refine And.intro ?_ ?_)) ?_
  rintro ⟨i, b, F⟩ ⟨hi, hI⟩
  simp only at hi hI
  have htl := hI.tl
  have htk0 := hI.t0
  have htk1 := hI.t1
  have hln := hI.ln
  refine Spl.of (fun h2 => ?_) (fun h2 => ?_)
  · have hlt : i < acts.length := by have := of_decide_eq_true h2; simp at this; omega
    obtain ⟨a, ha⟩ : ∃ a, acts[i]? = some a := ⟨_, List.getElem?_eq_getElem hlt⟩
    have hrow : (acts.map baD)[i]? = some (baD a) := by rw [List.getElem?_map, ha]; rfl
    obtain ⟨ak, t, as_, k, c, tk, ot⟩ := a
    have hmay : Cv 11 [.agg [.d (.v (.int .u8 ak)), iv t, iv as_, iv k, iv c.k, iv c.at_, cv' c.ch, iv c.o.k, iv c.o.i.c, iv c.o.i.s, iv c.o.a.c, iv c.o.a.s, cv' c.o.ch, iv c.a.c, iv c.a.s, iv tk, iv ot], iv (IntKind.i64.wrap (n : Int))] (bv (decide (0 ≤ t) && (decide (t ≤ 15) && (decide (0 ≤ as_) && (decide (as_ < (n : Int)) && (decide (0 ≤ k) && decide (k ≤ 800))))))) := by
      rw [hw]; exact may15_c ak t as_ k c tk ot n
    (repeat (first | refine Spl.t rfl ?_ | refine Spl.f rfl ?_))
    refine IdxP.of _ (by omega) (by rw [Int.toNat_natCast]; exact hrow) ?_
    (repeat (first | refine Spl.t rfl ?_ | refine Spl.f rfl ?_))
    refine OpJ.callV hmay (fun _ _ => rfl) rfl rfl rfl ?_
    (repeat (first | refine Spl.t rfl ?_ | refine Spl.f rfl ?_))
    refine Spl.of (fun h3 => ?_) (fun h3 => ?_)
    · (repeat (first | refine Spl.t rfl ?_ | refine Spl.f rfl ?_))
      refine OpJ.callV Awake15_c (fun _ _ => rfl) rfl rfl rfl ?_
      (repeat (first | refine Spl.t rfl ?_ | refine Spl.f rfl ?_))
      exact FinP.open rfl rfl
    rw [Bool.not_eq_false', Bool.and_eq_true, Bool.and_eq_true, Bool.and_eq_true, Bool.and_eq_true, Bool.and_eq_true, decide_eq_true_iff, decide_eq_true_iff, decide_eq_true_iff, decide_eq_true_iff, decide_eq_true_iff, decide_eq_true_iff] at h3
    obtain ⟨g1, g2, g3, g4, g5, g6⟩ := h3
    obtain ⟨s, rfl⟩ : ∃ m : Nat, as_ = (m : Int) := ⟨as_.toNat, by omega⟩
    have hs : s < n := by omega
    obtain ⟨x, hx⟩ : ∃ x, b.st[s]? = some x := ⟨_, List.getElem?_eq_getElem (by omega)⟩
    have hho := Holder_c b s
    rw [holdB_is hx] at hho
    have hql := hI.q s x hx
    (repeat (first | refine Spl.t rfl ?_ | refine Spl.f rfl ?_))
    refine OpJ.callV hho (fun _ _ => rfl) rfl rfl rfl ?_
    (repeat (first | refine Spl.t rfl ?_ | refine Spl.f rfl ?_))
    by_cases k2 : ak = 2
    · subst k2
      have hlk := Lock_c b t s hx (by omega) (by omega)
      (repeat (first | refine Spl.t rfl ?_ | refine Spl.f rfl ?_))
      by_cases he : x.h = -1
      · rw [if_pos he] at hlk
        refine OpJ.callV hlk (fun _ _ => rfl) rfl rfl rfl ?_
        (repeat (first | refine Spl.t rfl ?_ | refine Spl.f rfl ?_))
        exact ⟨(i + 1, _, F), ⟨by simp only; omega, hI.lock ⟨g1, g2⟩ hx hs he⟩, by simp only; omega, ⟨some_iv (wrap_id _ (by omega) (by omega)), trivial⟩, (by repeat' (first | exact trivial | exact rfl | refine And.intro ?_ ?_)), (by repeat' (first | exact trivial | exact rfl | refine And.intro ?_ ?_)), (by repeat' (first | exact trivial | exact rfl | refine And.intro ?_ ?_))⟩
      · rw [if_neg he] at hlk
        refine OpJ.callV hlk (fun _ _ => rfl) rfl rfl rfl ?_
        (repeat (first | refine Spl.t rfl ?_ | refine Spl.f rfl ?_))
        exact ⟨(i + 1, b, F), ⟨by simp only; omega, hI.up⟩, by simp only; omega, ⟨some_iv (wrap_id _ (by omega) (by omega)), trivial⟩, (by repeat' (first | exact trivial | exact rfl | refine And.intro ?_ ?_)), (by repeat' (first | exact trivial | exact rfl | refine And.intro ?_ ?_)), (by repeat' (first | exact trivial | exact rfl | refine And.intro ?_ ?_))⟩
    by_cases k3 : ak = 3
    · subst k3
      (repeat (first | refine Spl.t rfl ?_ | refine Spl.f rfl ?_))
      by_cases he : x.h = t
      · refine Spl.t (decide_eq_true he) ?_
        (repeat (first | refine Spl.t rfl ?_ | refine Spl.f rfl ?_))
        refine OpJ.callV (Unlock_c b t s hx (by omega) (by omega)) (fun _ _ => rfl) rfl rfl rfl ?_
        (repeat (first | refine Spl.t rfl ?_ | refine Spl.f rfl ?_))
        exact ⟨(i + 1, _, F), ⟨by simp only; omega, hI.unlock ⟨g1, g2⟩ hx hs he⟩, by simp only; omega, ⟨some_iv (wrap_id _ (by omega) (by omega)), trivial⟩, (by repeat' (first | exact trivial | exact rfl | refine And.intro ?_ ?_)), (by repeat' (first | exact trivial | exact rfl | refine And.intro ?_ ?_)), (by repeat' (first | exact trivial | exact rfl | refine And.intro ?_ ?_))⟩
      · refine Spl.f (decide_eq_false he) ?_
        (repeat (first | refine Spl.t rfl ?_ | refine Spl.f rfl ?_))
        exact ⟨(i + 1, b, F), ⟨by simp only; omega, hI.up⟩, by simp only; omega, ⟨some_iv (wrap_id _ (by omega) (by omega)), trivial⟩, (by repeat' (first | exact trivial | exact rfl | refine And.intro ?_ ?_)), (by repeat' (first | exact trivial | exact rfl | refine And.intro ?_ ?_)), (by repeat' (first | exact trivial | exact rfl | refine And.intro ?_ ?_))⟩
    by_cases k4 : ak = 4
    · subst k4
      (repeat (first | refine Spl.t rfl ?_ | refine Spl.f rfl ?_))
      by_cases he : x.h = t
      · refine Spl.t (decide_eq_true he) ?_
        (repeat (first | refine Spl.t rfl ?_ | refine Spl.f rfl ?_))
        have hp := Push_c b t s k c hx (by omega) (by omega) (by omega) htk0 (by omega)
        by_cases e1 : x.sealed = true
        · rw [if_pos e1] at hp
          refine OpJ.callV hp (fun _ _ => rfl) rfl rfl rfl ?_
          (repeat (first | refine Spl.t rfl ?_ | refine Spl.f rfl ?_))
          exact ⟨(i + 1, _, F), ⟨by simp only; omega, hI.acc1 ⟨g1, g2⟩ (.inl rfl) hx hs he⟩, by simp only; omega, ⟨some_iv (wrap_id _ (by omega) (by omega)), trivial⟩, (by repeat' (first | exact trivial | exact rfl | refine And.intro ?_ ?_)), (by repeat' (first | exact trivial | exact rfl | refine And.intro ?_ ?_)), (by repeat' (first | exact trivial | exact rfl | refine And.intro ?_ ?_))⟩
        · rw [if_neg e1] at hp
          by_cases e2 : b.room ≤ x.q.length
          · rw [if_pos e2] at hp
            refine OpJ.callV hp (fun _ _ => rfl) rfl rfl rfl ?_
            (repeat (first | refine Spl.t rfl ?_ | refine Spl.f rfl ?_))
            exact ⟨(i + 1, _, F), ⟨by simp only; omega, hI.acc1 ⟨g1, g2⟩ (.inl rfl) hx hs he⟩, by simp only; omega, ⟨some_iv (wrap_id _ (by omega) (by omega)), trivial⟩, (by repeat' (first | exact trivial | exact rfl | refine And.intro ?_ ?_)), (by repeat' (first | exact trivial | exact rfl | refine And.intro ?_ ?_)), (by repeat' (first | exact trivial | exact rfl | refine And.intro ?_ ?_))⟩
          · rw [if_neg e2] at hp
            refine OpJ.callV hp (fun _ _ => rfl) rfl rfl rfl ?_
            (repeat (first | refine Spl.t rfl ?_ | refine Spl.f rfl ?_))
            exact ⟨(i + 1, _, F), ⟨by simp only; omega, hI.push ⟨g1, g2⟩ hx hs he⟩, by simp only; omega, ⟨some_iv (wrap_id _ (by omega) (by omega)), trivial⟩, (by repeat' (first | exact trivial | exact rfl | refine And.intro ?_ ?_)), (by repeat' (first | exact trivial | exact rfl | refine And.intro ?_ ?_)), (by repeat' (first | exact trivial | exact rfl | refine And.intro ?_ ?_))⟩
      · refine Spl.f (decide_eq_false he) ?_
        (repeat (first | refine Spl.t rfl ?_ | refine Spl.f rfl ?_))
        exact ⟨(i + 1, b, F), ⟨by simp only; omega, hI.up⟩, by simp only; omega, ⟨some_iv (wrap_id _ (by omega) (by omega)), trivial⟩, (by repeat' (first | exact trivial | exact rfl | refine And.intro ?_ ?_)), (by repeat' (first | exact trivial | exact rfl | refine And.intro ?_ ?_)), (by repeat' (first | exact trivial | exact rfl | refine And.intro ?_ ?_))⟩
    by_cases k5 : ak = 5
    · subst k5
      (repeat (first | refine Spl.t rfl ?_ | refine Spl.f rfl ?_))
      by_cases he : x.h = t
      · refine Spl.t (decide_eq_true he) ?_
        (repeat (first | refine Spl.t rfl ?_ | refine Spl.f rfl ?_))
        have hp := Pop_c b t s tk hx (by omega) (by omega) (by omega)
        cases e1 : popE x tk with
        | none =>
          rw [e1] at hp
          refine OpJ.callV hp (fun _ _ => rfl) rfl rfl rfl ?_
          (repeat (first | refine Spl.t rfl ?_ | refine Spl.f rfl ?_))
          exact ⟨(i + 1, _, F), ⟨by simp only; omega, hI.acc1 ⟨g1, g2⟩ (.inl rfl) hx hs he⟩, by simp only; omega, ⟨some_iv (wrap_id _ (by omega) (by omega)), trivial⟩, (by repeat' (first | exact trivial | exact rfl | refine And.intro ?_ ?_)), (by repeat' (first | exact trivial | exact rfl | refine And.intro ?_ ?_)), (by repeat' (first | exact trivial | exact rfl | refine And.intro ?_ ?_))⟩
        | some p =>
          obtain ⟨e, r⟩ := p
          rw [e1] at hp
          refine OpJ.callV hp (fun _ _ => rfl) rfl rfl rfl ?_
          (repeat (first | refine Spl.t rfl ?_ | refine Spl.f rfl ?_))
          exact ⟨(i + 1, _, F), ⟨by simp only; omega, hI.pop ⟨g1, g2⟩ hx hs he e1⟩, by simp only; omega, ⟨some_iv (wrap_id _ (by omega) (by omega)), trivial⟩, (by repeat' (first | exact trivial | exact rfl | refine And.intro ?_ ?_)), (by repeat' (first | exact trivial | exact rfl | refine And.intro ?_ ?_)), (by repeat' (first | exact trivial | exact rfl | refine And.intro ?_ ?_))⟩
      · refine Spl.f (decide_eq_false he) ?_
        (repeat (first | refine Spl.t rfl ?_ | refine Spl.f rfl ?_))
        exact ⟨(i + 1, b, F), ⟨by simp only; omega, hI.up⟩, by simp only; omega, ⟨some_iv (wrap_id _ (by omega) (by omega)), trivial⟩, (by repeat' (first | exact trivial | exact rfl | refine And.intro ?_ ?_)), (by repeat' (first | exact trivial | exact rfl | refine And.intro ?_ ?_)), (by repeat' (first | exact trivial | exact rfl | refine And.intro ?_ ?_))⟩
    by_cases k6 : ak = 6
    · subst k6
      (repeat (first | refine Spl.t rfl ?_ | refine Spl.f rfl ?_))
      by_cases he : x.h = t
      · refine Spl.t (decide_eq_true he) ?_
        (repeat (first | refine Spl.t rfl ?_ | refine Spl.f rfl ?_))
        refine OpJ.callV (Seal_c b t s hx (by omega) (by omega)) (fun _ _ => rfl) rfl rfl rfl ?_
        (repeat (first | refine Spl.t rfl ?_ | refine Spl.f rfl ?_))
        exact ⟨(i + 1, _, F), ⟨by simp only; omega, hI.seal ⟨g1, g2⟩ hx hs he⟩, by simp only; omega, ⟨some_iv (wrap_id _ (by omega) (by omega)), trivial⟩, (by repeat' (first | exact trivial | exact rfl | refine And.intro ?_ ?_)), (by repeat' (first | exact trivial | exact rfl | refine And.intro ?_ ?_)), (by repeat' (first | exact trivial | exact rfl | refine And.intro ?_ ?_))⟩
      · refine Spl.f (decide_eq_false he) ?_
        (repeat (first | refine Spl.t rfl ?_ | refine Spl.f rfl ?_))
        exact ⟨(i + 1, b, F), ⟨by simp only; omega, hI.up⟩, by simp only; omega, ⟨some_iv (wrap_id _ (by omega) (by omega)), trivial⟩, (by repeat' (first | exact trivial | exact rfl | refine And.intro ?_ ?_)), (by repeat' (first | exact trivial | exact rfl | refine And.intro ?_ ?_)), (by repeat' (first | exact trivial | exact rfl | refine And.intro ?_ ?_))⟩
    by_cases k7 : ak = 7
    · subst k7
      (repeat (first | refine Spl.t rfl ?_ | refine Spl.f rfl ?_))
      by_cases he : x.h = t
      · refine Spl.t (decide_eq_true he) ?_
        (repeat (first | refine Spl.t rfl ?_ | refine Spl.f rfl ?_))
        refine OpJ.callV (Empty_c b t s hx (by omega)) (fun _ _ => rfl) rfl rfl rfl ?_
        (repeat (first | refine Spl.t rfl ?_ | refine Spl.f rfl ?_))
        exact ⟨(i + 1, _, F), ⟨by simp only; omega, hI.acc1 ⟨g1, g2⟩ (.inl rfl) hx hs he⟩, by simp only; omega, ⟨some_iv (wrap_id _ (by omega) (by omega)), trivial⟩, (by repeat' (first | exact trivial | exact rfl | refine And.intro ?_ ?_)), (by repeat' (first | exact trivial | exact rfl | refine And.intro ?_ ?_)), (by repeat' (first | exact trivial | exact rfl | refine And.intro ?_ ?_))⟩
      · refine Spl.f (decide_eq_false he) ?_
        (repeat (first | refine Spl.t rfl ?_ | refine Spl.f rfl ?_))
        exact ⟨(i + 1, b, F), ⟨by simp only; omega, hI.up⟩, by simp only; omega, ⟨some_iv (wrap_id _ (by omega) (by omega)), trivial⟩, (by repeat' (first | exact trivial | exact rfl | refine And.intro ?_ ?_)), (by repeat' (first | exact trivial | exact rfl | refine And.intro ?_ ?_)), (by repeat' (first | exact trivial | exact rfl | refine And.intro ?_ ?_))⟩
    by_cases k10 : ak = 10
    · subst k10
      have hfk := hI.f k
      (repeat (first | refine Spl.t rfl ?_ | refine Spl.f rfl ?_))
      refine LookP.by kInt F (e := fun v => [D.v (.int .i64 v)]) (fun v hv => ?_) (fun hv => ?_)
      · rw [hv] at hfk
        have hv1 : v = 1 ∧ slotB b k = true := by
          split at hfk
          · next q => cases hfk; exact ⟨rfl, q⟩
          · cases hfk
        obtain ⟨rfl, _⟩ := hv1
        (repeat (first | refine Spl.t rfl ?_ | refine Spl.f rfl ?_))
        exact ⟨(i + 1, b, F), ⟨by simp only; omega, hI.up⟩, by simp only; omega, ⟨some_iv (wrap_id _ (by omega) (by omega)), trivial⟩, (by repeat' (first | exact trivial | exact rfl | refine And.intro ?_ ?_)), (by repeat' (first | exact trivial | exact rfl | refine And.intro ?_ ?_)), (by repeat' (first | exact trivial | exact rfl | refine And.intro ?_ ?_))⟩
      · rw [hv] at hfk
        have hsl : slotB b k = false := by
          cases q : slotB b k with
          | false => rfl
          | true => rw [q] at hfk; cases hfk
        (repeat (first | refine Spl.t rfl ?_ | refine Spl.f rfl ?_))
        refine LookP.by kInt F (e := fun v => [D.v (.int .i64 v)]) (fun v hv2 => ?_) (fun hv2 => ?_)
        · rw [hv] at hv2; cases hv2
        (repeat (first | refine Spl.t rfl ?_ | refine Spl.f rfl ?_))
        refine PutP.by kInt F (1 : Int) (e := fun v => [D.v (.int .i64 v)]) ?_
        (repeat (first | refine Spl.t rfl ?_ | refine Spl.f rfl ?_))
        refine OpJ.callV (Fill_c b t k RS0 (by omega) g5 (by omega)) (fun _ _ => rfl) rfl rfl rfl ?_
        (repeat (first | refine Spl.t rfl ?_ | refine Spl.f rfl ?_))
        exact ⟨(i + 1, _, aset k 1 F), ⟨by simp only; omega, hI.fill RS0 ⟨g1, g2⟩ g5 g6 hsl⟩, by simp only; omega, ⟨some_iv (wrap_id _ (by omega) (by omega)), trivial⟩, (by repeat' (first | exact trivial | exact rfl | refine And.intro ?_ ?_)), (by repeat' (first | exact trivial | exact rfl | refine And.intro ?_ ?_)), (by repeat' (first | exact trivial | exact rfl | refine And.intro ?_ ?_))⟩
    by_cases k12 : ak = 12
    · subst k12
      have hfd := Filled_c b t k (by omega) g5 (by omega)
      (repeat (first | refine Spl.t rfl ?_ | refine Spl.f rfl ?_))
      cases q : (b.slot k).isSome with
      | false =>
        rw [q] at hfd
        refine OpJ.callV hfd (fun _ _ => rfl) rfl rfl rfl ?_
        (repeat (first | refine Spl.t rfl ?_ | refine Spl.f rfl ?_))
        exact ⟨(i + 1, _, F), ⟨by simp only; omega, hI.sync ⟨g1, g2⟩⟩, by simp only; omega, ⟨some_iv (wrap_id _ (by omega) (by omega)), trivial⟩, (by repeat' (first | exact trivial | exact rfl | refine And.intro ?_ ?_)), (by repeat' (first | exact trivial | exact rfl | refine And.intro ?_ ?_)), (by repeat' (first | exact trivial | exact rfl | refine And.intro ?_ ?_))⟩
      | true =>
        rw [q] at hfd
        refine OpJ.callV hfd (fun _ _ => rfl) rfl rfl rfl ?_
        (repeat (first | refine Spl.t rfl ?_ | refine Spl.f rfl ?_))
        refine OpJ.callV (Fetch_c (b.did t [(2, 3000 + k)]) t k (by show (b.tr ++ [_]).length ≤ _; simp; omega) g5 (by omega)) (fun _ _ => rfl) rfl rfl rfl ?_
        (repeat (first | refine Spl.t rfl ?_ | refine Spl.f rfl ?_))
        exact ⟨(i + 1, _, F), ⟨by simp only; omega, hI.fetch ⟨g1, g2⟩ g5 g6 q⟩, by simp only; omega, ⟨some_iv (wrap_id _ (by omega) (by omega)), trivial⟩, (by repeat' (first | exact trivial | exact rfl | refine And.intro ?_ ?_)), (by repeat' (first | exact trivial | exact rfl | refine And.intro ?_ ?_)), (by repeat' (first | exact trivial | exact rfl | refine And.intro ?_ ?_))⟩
    · refine Spl.f (decide_eq_false k2) ?_
      (repeat (first | refine Spl.t rfl ?_ | refine Spl.f rfl ?_))
      refine Spl.f (decide_eq_false k3) ?_
      (repeat (first | refine Spl.t rfl ?_ | refine Spl.f rfl ?_))
      refine Spl.f (decide_eq_false k4) ?_
      (repeat (first | refine Spl.t rfl ?_ | refine Spl.f rfl ?_))
      refine Spl.f (decide_eq_false k5) ?_
      (repeat (first | refine Spl.t rfl ?_ | refine Spl.f rfl ?_))
      refine Spl.f (decide_eq_false k6) ?_
      (repeat (first | refine Spl.t rfl ?_ | refine Spl.f rfl ?_))
      refine Spl.f (decide_eq_false k7) ?_
      (repeat (first | refine Spl.t rfl ?_ | refine Spl.f rfl ?_))
      refine Spl.f (decide_eq_false k10) ?_
      (repeat (first | refine Spl.t rfl ?_ | refine Spl.f rfl ?_))
      refine Spl.f (decide_eq_false k12) ?_
      (repeat (first | refine Spl.t rfl ?_ | refine Spl.f rfl ?_))
      exact ⟨(i + 1, b, F), ⟨by simp only; omega, hI.up⟩, by simp only; omega, ⟨some_iv (wrap_id _ (by omega) (by omega)), trivial⟩, (by repeat' (first | exact trivial | exact rfl | refine And.intro ?_ ?_)), (by repeat' (first | exact trivial | exact rfl | refine And.intro ?_ ?_)), (by repeat' (first | exact trivial | exact rfl | refine And.intro ?_ ?_))⟩
  · have h2 := of_decide_eq_false h2
    simp at h2
    have hfst := First_c b.tr (by omega)
    obtain ⟨fx, fy, he⟩ := firstV_is b.tr
    rw [he, ba_first (by omega) hI.ti.may hI.ti.rf] at hfst
    (repeat (first | refine Spl.t rfl ?_ | refine Spl.f rfl ?_))
    refine OpJ.callV (Trace_c b (by omega)) (fun _ _ => rfl) rfl rfl rfl ?_
    (repeat (first | refine Spl.t rfl ?_ | refine Spl.f rfl ?_))
    refine OpJ.callV hfst (fun _ _ => rfl) rfl rfl rfl ?_
    (repeat (first | refine Spl.t rfl ?_ | refine Spl.f rfl ?_))
    refine OpJ.callV Awake15_c (fun _ _ => rfl) rfl rfl rfl ?_
    (repeat (first | refine Spl.t rfl ?_ | refine Spl.f rfl ?_))
    exact FinP.open rfl rfl
end Go.Proofs.E
end
section
open Go Go.Gv
attribute [local irreducible] Go.Gv.WJ Go.Gv.OpJ Go.Gv.QJ Go.Gv.Spl Go.Gv.Req Go.Gv.IdxP Go.Gv.RegP Go.Gv.FinP Go.Gv.CellP Go.Gv.CellsP Go.Gv.ArrP Go.Gv.ArrsP Go.Gv.DropP Go.Gv.ByteP Go.Gv.StoreP
namespace Go.Proofs.E
theorem baRow (cs : List D) (h : (Ty.st [.int .u8, .int .i64, .int .i64, .int .i64, .st [.int .i64, .int .i64, .int .i32, .st [.int .i64, .st [.int .i64, .int .i64], .st [.int .i64, .int .i64], .int .i32], .st [.int .i64, .int .i64]], .int .i64, .int .i64]).ok cs) : ∃ x : BA, cs = baD x ∧ True := by
  obtain ⟨_, _, rfl, ⟨k, rfl, _⟩, ⟨_, _, rfl, ⟨t, rfl, _⟩, ⟨_, _, rfl, ⟨s, rfl, _⟩, ⟨_, _, rfl, ⟨sl, rfl, _⟩, ⟨_, _, rfl, ⟨_, _, rfl, ⟨c0, rfl, _⟩, ⟨_, _, rfl, ⟨c1, rfl, _⟩, ⟨_, _, rfl, ⟨c2, rfl, _⟩, ⟨_, _, rfl, ⟨_, _, rfl, ⟨c3, rfl, _⟩, ⟨_, _, rfl, ⟨_, _, rfl, ⟨c4, rfl, _⟩, ⟨_, _, rfl, ⟨c5, rfl, _⟩, rfl⟩⟩, ⟨_, _, rfl, ⟨_, _, rfl, ⟨c6, rfl, _⟩, ⟨_, _, rfl, ⟨c7, rfl, _⟩, rfl⟩⟩, ⟨_, _, rfl, ⟨c8, rfl, _⟩, rfl⟩⟩⟩⟩, ⟨_, _, rfl, ⟨_, _, rfl, ⟨c9, rfl, _⟩, ⟨_, _, rfl, ⟨c10, rfl, _⟩, rfl⟩⟩, rfl⟩⟩⟩⟩⟩, ⟨_, _, rfl, ⟨tk, rfl, _⟩, ⟨_, _, rfl, ⟨ot, rfl, _⟩, rfl⟩⟩⟩⟩⟩⟩⟩ := h
  exact ⟨⟨k, t, s, sl, ⟨c0, c1, c2, ⟨c3, ⟨c4, c5⟩, ⟨c6, c7⟩, c8⟩, ⟨c9, c10⟩⟩, tk, ot⟩, rfl, trivial⟩
theorem BoardSafeI_c (n : Int) (h : 0 ≤ n ∧ n ≤ 255) (acts : List BA) : Cv 3 [u8v n, .d (.sl 17 (acts.map baD))] (bv true) := by
  obtain ⟨m, rfl⟩ : ∃ m : Nat, n = (m : Int) := ⟨n.toNat, by omega⟩
  exact BoardSafe_c m (by omega) acts
end Go.Proofs.E
end
