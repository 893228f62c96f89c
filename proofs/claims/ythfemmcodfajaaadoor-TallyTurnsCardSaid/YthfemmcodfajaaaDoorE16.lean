/- The law TallyTurns. -/
import Derived.Test.YthfemmcodfajaaaDoorE15
import Derived.Test.YthfemmcodfajaaaDoorG20
set_option linter.unusedVariables false
set_option linter.unusedSimpArgs false
open Go Go.Gv Go.Gv.Fl
attribute [local irreducible] Go.Gv.WJ Go.Gv.OpJ Go.Gv.QJ Go.Gv.Spl Go.Gv.Req Go.Gv.IdxP Go.Gv.RegP Go.Gv.FinP Go.Gv.QuietP Go.Gv.CellP Go.Gv.CellsP Go.Gv.ArrP Go.Gv.ArrsP Go.Gv.DropP Go.Gv.ByteP Go.Gv.StoreP
set_option maxRecDepth 100000
namespace Go.Proofs.E
abbrev idD (x : ID) : List D := [.v (.int .i64 x.c), .v (.int .i64 x.s)]
def TL.sum : List ID → TL
  | [] => TL.zero
  | x :: l => (TL.sum l).add (TL.one x)
theorem TL.add_comm (t u : TL) : t.add u = u.add t := by
  simp only [TL.add, TL.mk.injEq]; omega
theorem TL.add_assoc (t u v : TL) : (t.add u).add v = t.add (u.add v) := by
  simp only [TL.add, TL.mk.injEq]; omega
theorem TL.zero_add (t : TL) : TL.zero.add t = t := by cases t; simp [TL.zero, TL.add]
theorem TL.sum_app : ∀ (l m : List ID), TL.sum (l ++ m) = (TL.sum l).add (TL.sum m)
  | [], m => by rw [List.nil_append, TL.sum, TL.zero_add]
  | x :: l, m => by
    rw [List.cons_append, TL.sum, TL.sum, TL.sum_app l m, TL.add_assoc, TL.add_comm (TL.sum m), ← TL.add_assoc]
theorem TL.sum_one (x : ID) : TL.sum [x] = TL.one x := by rw [TL.sum, TL.sum, TL.zero_add]
theorem TL.sum_snoc (l : List ID) (x : ID) : TL.sum (l ++ [x]) = (TL.sum l).add (TL.one x) := by rw [TL.sum_app, TL.sum_one]
theorem TL.sum_rev : ∀ (l : List ID), TL.sum l.reverse = TL.sum l
  | [] => rfl
  | x :: l => by rw [List.reverse_cons, TL.sum_snoc, TL.sum_rev l]; rfl
theorem TL.sum_n : ∀ (l : List ID), (TL.sum l).n = l.length
  | [] => rfl
  | x :: l => by rw [TL.sum]; show (TL.sum l).n + 1 = _; rw [TL.sum_n l]; simp
theorem TL.sum_ok : ∀ (l : List ID), (∀ x, x ∈ l → mayI x = true) → l.length ≤ 4096 → (TL.sum l).ok
  | [], _, _ => by unfold TL.ok; decide
  | x :: l, h, hl => by
    have h1 := TL.sum_ok l (fun y hy => h y (List.mem_cons_of_mem _ hy)) (by simp at hl; omega)
    refine TL.ok_add h1 (one_ok (h x (by simp))) ?_
    rw [TL.sum_n]; simp at hl; show (l.length : Int) + 1 ≤ 4096; omega
theorem PutOk_c (t : TL) (x : ID) (h : t.ok) (hm : mayI x = true) (hn : t.n + 1 ≤ 4096) : Cv 37 [tlv t, idv x] (.tup [tlv (t.add (TL.one x)), iv 0]) := by
  have := PutT_c t x h
  rw [if_pos hm, if_pos (by show t.n + 1 ≤ 4096; exact hn)] at this
  exact this
theorem take_snoc {α : Type} {l : List α} {i : Nat} {x : α} (h : l[i]? = some x) : l.take (i + 1) = l.take i ++ [x] := by
  rw [List.take_add_one, h]; rfl
theorem all_snoc {α : Type} {p : α → Prop} {l : List α} {x : α} (h : ∀ y, y ∈ l → p y) (hx : p x) : ∀ y, y ∈ l ++ [x] → p y := fun y hy => by
  rcases List.mem_append.1 hy with h1 | h1
  · exact h y h1
  · rw [List.mem_singleton.1 h1]; exact hx
theorem same_self (t : TL) : (decide (t.n = t.n) && (decide (t.a = t.a) && decide (t.b = t.b)) && (decide (t.c = t.c) && decide (t.d = t.d))) = true := by simp
theorem sameT_true {t u : TL} (h : t.ok) (e : t = u) : Cv 39 [tlv t, tlv u] (bv true) := by
  subst e
  have := SameT_c t t h h
  rw [same_self] at this; exact this
theorem drop_snoc {α : Type} {l : List α} {c i : Nat} {x : α} (h : l[i]? = some x) : (l.take (i + 1)).drop c = if i < c then [] else (l.take i).drop c ++ [x] := by
  have hi := (List.getElem?_eq_some_iff.1 h).1
  rw [take_snoc h, List.drop_append]
  split
  · next hc => rw [List.drop_eq_nil_of_le (by simp; omega), List.drop_eq_nil_of_le (by simp; omega)]; rfl
  · next hc =>
    have : c - (l.take i).length = 0 := by simp; omega
    rw [this]; rfl
def cutT (l : List ID) (c i : Nat) : List ID := (l.take i).take c
def restT (l : List ID) (c i : Nat) : List ID := (l.take i).drop c
theorem TallyTurns_c (l : List ID) (c : Int) (hc0 : 0 ≤ c) (hc1 : c ≤ 255) (a : ID) : Cv 7 [.d (.sl 2 (l.map idD)), .d (.v (.int .u8 c)), idv a] (bv true) := by
  have e9 : TL.sum (cutT l c.toNat 0) = TL.zero := by simp [cutT, TL.sum]
  have e10 : TL.sum (restT l c.toNat 0) = TL.zero := by simp [restT, TL.sum]
  refine Ct.of_vc Tryd.f7 Tryd.func7 rfl rfl fun w H B g0 => ?_
  refine Spl.of (fun h => ?_) (fun h => ?_)
  · (repeat (first | refine Spl.t rfl ?_ | refine Spl.f rfl ?_)); refine OpJ.callV Awake2_c (fun _ _ => rfl) rfl rfl rfl ?_
    exact FinP.open rfl rfl
  · have hlen : l.length ≤ 200 := by have := of_decide_eq_false h; simp at this; omega
    (repeat (first | refine Spl.t rfl ?_ | refine Spl.f rfl ?_))
    refine WJ.loopK (V := Nat) (fun i => [(23, iv i)]) (fun i => [(7, .cells (avCells (tlv (TL.sum (l.take i))))), (8, .cells (avCells (tlv (TL.sum (l.reverse.take i))))), (9, .cells (avCells (tlv (TL.sum (cutT l c.toNat i))))), (10, .cells (avCells (tlv (TL.sum (restT l c.toNat i)))))]) [7, 8, 9, 10] (fun i => l.length - i)
      (fun i => i ≤ l.length ∧ (∀ x, x ∈ l.take i → mayI x = true) ∧ (∀ x, x ∈ l.reverse.take i → mayI x = true)) 0 (by simp) (by repeat' (first | exact trivial | exact rfl | refine And.intro ?_ ?_)) ⟨rfl, rfl, by rw [e9]; rfl, by rw [e10]; rfl, trivial⟩ ?_
    intro i ⟨hi, m1, m2⟩
    refine Spl.of (fun h => ?_) (fun h => ?_)
    · have hlt : i < l.length := by have := of_decide_eq_true h; simp at this; omega
      obtain ⟨x, hx⟩ : ∃ x, l[i]? = some x := ⟨l[i], by simp [hlt]⟩
      obtain ⟨y, hy⟩ : ∃ y, l[l.length - 1 - i]? = some y := ⟨l[l.length - 1 - i], by simp⟩
      have hy' : l.reverse[i]? = some y := by rw [List.getElem?_reverse hlt]; exact hy
      have hw : IntKind.i64.wrap (IntKind.i64.wrap (((l.map idD).length : Int) - 1) - (i : Int)) = ((l.length - 1 - i : Nat) : Int) := by
        simp only [List.length_map]
        rw [wrap_id ((l.length : Int) - 1) (by omega) (by omega), wrap_id _ (by omega) (by omega)]; omega
      (repeat (first | refine Spl.t rfl ?_ | refine Spl.f rfl ?_))
      refine IdxP.of (idD x) (by omega) (by simp [hx]) ?_
      refine OpJ.callV (Of_c x) (fun _ _ => rfl) rfl rfl rfl ?_
      refine OpJ.callV (May_c x) (fun _ _ => rfl) rfl rfl rfl ?_
      refine Spl.of (fun h1 => ?_) (fun h1 => ?_)
      · (repeat (first | refine Spl.t rfl ?_ | refine Spl.f rfl ?_)); refine OpJ.callV Awake2_c (fun _ _ => rfl) rfl rfl rfl ?_
        exact FinP.open rfl rfl
      · have mx : mayI x = true := by simpa using h1
        (repeat (first | refine Spl.t rfl ?_ | refine Spl.f rfl ?_))
        refine IdxP.of (idD y) (by rw [hw]; omega) (by rw [hw]; simp [hy]) ?_
        (repeat (first | refine Spl.t rfl ?_ | refine Spl.f rfl ?_))
        refine OpJ.callV (Of_c y) (fun _ _ => rfl) rfl rfl rfl ?_
        (repeat (first | refine Spl.t rfl ?_ | refine Spl.f rfl ?_))
        refine OpJ.callV (May_c y) (fun _ _ => rfl) rfl rfl rfl ?_
        (repeat (first | refine Spl.t rfl ?_ | refine Spl.f rfl ?_))
        refine Spl.of (fun h2 => ?_) (fun h2 => ?_)
        · (repeat (first | refine Spl.t rfl ?_ | refine Spl.f rfl ?_)); refine OpJ.callV Awake2_c (fun _ _ => rfl) rfl rfl rfl ?_
          exact FinP.open rfl rfl
        · have my : mayI y = true := by simpa using h2
          have n1 := all_snoc m1 mx
          rw [← take_snoc hx] at n1
          have n2 := all_snoc m2 my
          rw [← take_snoc hy'] at n2
          have l1 : (l.take i).length ≤ 200 := by simp; omega
          have l2 : (l.reverse.take i).length ≤ 200 := by simp; omega
          have p1 := PutOk_c (TL.sum (l.take i)) x (TL.sum_ok _ m1 (by omega)) mx (by rw [TL.sum_n]; omega)
          rw [← TL.sum_snoc, ← take_snoc hx] at p1
          have p2 := PutOk_c (TL.sum (l.reverse.take i)) y (TL.sum_ok _ m2 (by omega)) my (by rw [TL.sum_n]; omega)
          rw [← TL.sum_snoc, ← take_snoc hy'] at p2
          (repeat (first | refine Spl.t rfl ?_ | refine Spl.f rfl ?_))
          refine OpJ.callV p1 (fun _ _ => rfl) rfl rfl rfl ?_
          (repeat (first | refine Spl.t rfl ?_ | refine Spl.f rfl ?_))
          have l3 : (cutT l c.toNat i).length ≤ 200 := by simp [cutT]; omega
          have l4 : (restT l c.toNat i).length ≤ 200 := by simp [restT]; omega
          have m3 : ∀ x, x ∈ cutT l c.toNat i → mayI x = true := fun z hz => m1 z (List.mem_of_mem_take hz)
          have m4 : ∀ x, x ∈ restT l c.toNat i → mayI x = true := fun z hz => m1 z (List.mem_of_mem_drop hz)
          have wc : IntKind.i64.wrap c = c := wrap_id _ (by omega) (by omega)
          refine RegP.mix 11 rfl (by decide +kernel) ?_
          refine IdxP.of (idD y) (by rw [hw]; omega) (by rw [hw]; simp [hy]) ?_
          refine QuietP.of (QJ.call p2 (fun _ _ => rfl) rfl rfl) ?_
          (repeat' (refine And.intro ?_ ?_))
          all_goals
            (repeat (first | refine Spl.t rfl ?_ | refine Spl.f rfl ?_))
            refine Spl.of (fun h3 => ?_) (fun h3 => ?_)
            · have hic : i < c.toNat := by have := of_decide_eq_true h3; rw [wc] at this; omega
              have p3 := PutOk_c (TL.sum (cutT l c.toNat i)) x (TL.sum_ok _ m3 (by omega)) mx (by rw [TL.sum_n]; omega)
              have e3 : cutT l c.toNat (i + 1) = cutT l c.toNat i ++ [x] := by
                unfold cutT
                rw [take_snoc hx, List.take_of_length_le (l := l.take i ++ [x]) (by simp; omega), List.take_of_length_le (l := l.take i) (by simp; omega)]
              have e4 : restT l c.toNat (i + 1) = restT l c.toNat i := by
                unfold restT
                rw [drop_snoc hx, if_pos hic, List.drop_eq_nil_of_le (by simp; omega)]
              rw [← TL.sum_snoc, ← e3] at p3
              (repeat (first | refine Spl.t rfl ?_ | refine Spl.f rfl ?_))
              refine OpJ.callV p3 (fun _ _ => rfl) rfl rfl rfl ?_
              (repeat (first | refine Spl.t rfl ?_ | refine Spl.f rfl ?_))
              exact ⟨i + 1, ⟨by omega, n1, n2⟩, by omega, ⟨some_iv (wrap_id _ (by omega) (by omega)), trivial⟩, (by repeat' (first | exact trivial | exact rfl | refine And.intro ?_ ?_)), ⟨rfl, rfl, rfl, by rw [e4]; rfl, trivial⟩, (by repeat' (first | exact trivial | exact rfl | refine And.intro ?_ ?_))⟩
            · have hic : ¬ i < c.toNat := by have := of_decide_eq_false h3; rw [wc] at this; omega
              have p4 := PutOk_c (TL.sum (restT l c.toNat i)) x (TL.sum_ok _ m4 (by omega)) mx (by rw [TL.sum_n]; omega)
              have e4 : restT l c.toNat (i + 1) = restT l c.toNat i ++ [x] := by
                unfold restT
                rw [drop_snoc hx, if_neg hic]
              have e3 : cutT l c.toNat (i + 1) = cutT l c.toNat i := by
                unfold cutT
                rw [take_snoc hx, List.take_append_of_le_length (by simp; omega)]
              rw [← TL.sum_snoc, ← e4] at p4
              (repeat (first | refine Spl.t rfl ?_ | refine Spl.f rfl ?_))
              refine OpJ.callV p4 (fun _ _ => rfl) rfl rfl rfl ?_
              (repeat (first | refine Spl.t rfl ?_ | refine Spl.f rfl ?_))
              exact ⟨i + 1, ⟨by omega, n1, n2⟩, by omega, ⟨some_iv (wrap_id _ (by omega) (by omega)), trivial⟩, (by repeat' (first | exact trivial | exact rfl | refine And.intro ?_ ?_)), ⟨rfl, rfl, by rw [e3]; rfl, rfl, trivial⟩, (by repeat' (first | exact trivial | exact rfl | refine And.intro ?_ ?_))⟩
    · have he : i = l.length := by have := of_decide_eq_false h; simp at this; omega
      subst he
      rw [List.take_length] at m1
      have eu : TL.sum (l.reverse.take l.length) = TL.sum l := by rw [List.take_of_length_le (by simp), TL.sum_rev]
      have et : TL.sum (l.take l.length) = TL.sum l := by rw [List.take_length]
      have ok := TL.sum_ok l m1 (by omega)
      have okw := TL.sum_ok (restT l c.toNat l.length) (fun z hz => m1 z (by unfold restT at hz; rw [List.take_length] at hz; exact List.mem_of_mem_drop hz)) (by simp [restT]; omega)
      have okv := TL.sum_ok (cutT l c.toNat l.length) (fun z hz => m1 z (by unfold cutT at hz; rw [List.take_length] at hz; exact List.mem_of_mem_take hz)) (by simp [cutT]; omega)
      have es : (TL.sum (restT l c.toNat l.length)).add (TL.sum (cutT l c.toNat l.length)) = TL.sum l := by
        rw [TL.add_comm, ← TL.sum_app, restT, cutT, List.take_length, List.take_append_drop]
      have ha := And_c _ _ okw okv
      have hn : (TL.sum (restT l c.toNat l.length)).n + (TL.sum (cutT l c.toNat l.length)).n ≤ 4096 := by
        rw [TL.sum_n, TL.sum_n]; simp [restT, cutT]; omega
      rw [if_pos hn, es] at ha
      have okT : (TL.sum (l.take l.length)).ok := et ▸ ok
      (repeat (first | refine Spl.t rfl ?_ | refine Spl.f rfl ?_))
      refine OpJ.callV ha (fun _ _ => rfl) rfl rfl rfl ?_
      (repeat (first | refine Spl.t rfl ?_ | refine Spl.f rfl ?_))
      refine OpJ.callV (sameT_true okT (et.trans eu.symm)) (fun _ _ => rfl) rfl rfl rfl ?_
      (repeat (first | refine Spl.t rfl ?_ | refine Spl.f rfl ?_))
      refine OpJ.callV (sameT_true okT et) (fun _ _ => rfl) rfl rfl rfl ?_
      (repeat (first | refine Spl.t rfl ?_ | refine Spl.f rfl ?_))
      refine Spl.f (by simp [TL.sum_n]) ?_
      (repeat (first | refine Spl.t rfl ?_ | refine Spl.f rfl ?_))
      have hp := PutT_c _ a okT
      have ht := TakeT_c ((TL.sum (l.take l.length)).add (TL.one a)) a
      by_cases hm : mayI a = true
      · have n1 : (TL.sum (l.take l.length)).n + (TL.one a).n ≤ 4096 := by rw [TL.sum_n]; simp; show (l.length : Int) + 1 ≤ 4096; omega
        have okA := TL.ok_add okT (one_ok hm) n1
        have hn0 : ¬ ((TL.sum (l.take l.length)).add (TL.one a)).n = 0 := by show ¬ (TL.sum (l.take l.length)).n + 1 = 0; rw [TL.sum_n]; omega
        have eb : ((TL.sum (l.take l.length)).add (TL.one a)).sub (TL.one a) = TL.sum (l.take l.length) := by
          generalize TL.sum (l.take l.length) = t
          cases t; simp [TL.add, TL.sub]
        have ht := ht okA
        rw [if_pos hm, if_pos n1] at hp
        rw [if_pos hm, if_neg hn0, eb] at ht
        refine OpJ.callV hp (fun _ _ => rfl) rfl rfl rfl ?_
        (repeat (first | refine Spl.t rfl ?_ | refine Spl.f rfl ?_))
        refine OpJ.callV ht (fun _ _ => rfl) rfl rfl rfl ?_
        (repeat (first | refine Spl.t rfl ?_ | refine Spl.f rfl ?_))
        refine OpJ.callV Awake2_c (fun _ _ => rfl) rfl rfl rfl ?_
        (repeat (first | refine Spl.t rfl ?_ | refine Spl.f rfl ?_))
        refine OpJ.callV (sameT_true okT rfl) (fun _ _ => rfl) rfl rfl rfl ?_
        (repeat (first | refine Spl.t rfl ?_ | refine Spl.f rfl ?_))
        refine OpJ.callV (SameT_c _ _ okA okT) (fun _ _ => rfl) rfl rfl rfl ?_
        (repeat (first | refine Spl.t rfl ?_ | refine Spl.f rfl ?_))
        refine FinP.open rfl (congrArg bv ?_)
        have : ¬ ((TL.sum (l.take l.length)).add (TL.one a)).n = (TL.sum (l.take l.length)).n := by show ¬ (TL.sum (l.take l.length)).n + 1 = (TL.sum (l.take l.length)).n; omega
        rw [decide_eq_false this]; rfl
      · rw [if_neg hm] at hp
        refine OpJ.callV hp (fun _ _ => rfl) rfl rfl rfl ?_
        (repeat (first | refine Spl.t rfl ?_ | refine Spl.f rfl ?_))
        refine OpJ.callV Awake2_c (fun _ _ => rfl) rfl rfl rfl ?_
        (repeat (first | refine Spl.t rfl ?_ | refine Spl.f rfl ?_))
        refine OpJ.callV (Of_c a) (fun _ _ => rfl) rfl rfl rfl ?_
        (repeat (first | refine Spl.t rfl ?_ | refine Spl.f rfl ?_))
        refine OpJ.callV (May_c a) (fun _ _ => rfl) rfl rfl rfl ?_
        (repeat (first | refine Spl.t rfl ?_ | refine Spl.f rfl ?_))
        exact FinP.open rfl (congrArg bv (by simp [hm]))
theorem idRow (cs : List D) (h : (Ty.st [.int .i64, .int .i64]).ok cs) : ∃ a : ID, cs = idD a ∧ True := by
  obtain ⟨_, _, rfl, ⟨a0, rfl, w0⟩, ⟨_, _, rfl, ⟨a1, rfl, w1⟩, rfl⟩⟩ := h
  exact ⟨⟨a0, a1⟩, rfl, trivial⟩
theorem u8_rng {n : Int} (h : (Lit.int .u8 n).wf = true) : 0 ≤ n ∧ n ≤ 255 := by
  simp [Lit.wf, IntKind.min, IntKind.max, IntKind.signed, IntKind.bits] at h
  omega
end Go.Proofs.E
