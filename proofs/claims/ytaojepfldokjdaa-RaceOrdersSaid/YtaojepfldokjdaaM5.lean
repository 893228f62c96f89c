/- Laws that the claim's text stands on: The law RaceOrders: what is ahead is an order; a trace of one thread has no race; The law RaceSees: of a trace without races, a read sees the last write of its place that is ahead of it; Small laws of lists; Rows of acts as the statement reads them. -/
import Derived.Test.YtaojepfldokjdaaM1
import Derived.Test.YtaojepfldokjdaaM2
import Derived.Test.YtaojepfldokjdaaM3
import Derived.Test.YtaojepfldokjdaaM4
set_option linter.unusedVariables false
set_option linter.unusedSimpArgs false
section
open Go Go.Gv
attribute [local irreducible] Go.Gv.WJ Go.Gv.OpJ Go.Gv.QJ Go.Gv.Spl Go.Gv.Req Go.Gv.IdxP Go.Gv.RegP Go.Gv.FinP Go.Gv.CellP Go.Gv.CellsP Go.Gv.ArrP Go.Gv.ArrsP Go.Gv.DropP Go.Gv.ByteP Go.Gv.StoreP
set_option maxRecDepth 100000
namespace Go.Proofs.E
abbrev u8v (n : Int) : AV := .d (.v (.int .u8 n))
theorem aheadQ_iff {l : List AC} (hl : l.length ≤ 1000) (hm : allMay l = true) {a b : Nat} (ha : a < l.length) (hb : b < l.length) : aheadQ l a b = true ↔ HB l a b := by
  unfold aheadQ
  rw [hm, decide_eq_true (by omega : 0 ≤ (a : Int)), decide_eq_true (by omega : 0 ≤ (b : Int)), decide_eq_true (by omega : (a : Int) < (l.length : Nat)), decide_eq_true (by omega : (b : Int) < (l.length : Nat)), Int.toNat_natCast, Int.toNat_natCast]
  simp only [Bool.true_and]
  exact aheadB_iff hl ((allMay_iff l).1 hm) ha hb
def one3 (l : List AC) (n : Nat) : List AC := l.mapIdx fun i a => if i < n then ⟨3, a.k, a.loc⟩ else a
theorem one3_zero (l : List AC) : one3 l 0 = l := by
  apply List.ext_getElem?
  intro i
  simp [one3]
theorem one3_len (l : List AC) (n : Nat) : (one3 l n).length = l.length := by simp [one3]
theorem one3_get {l : List AC} {n : Nat} (h : n < l.length) : (one3 l n)[n]? = some (l.getD n AC0) := by simp [one3, List.getD_eq_getElem?_getD, h]
theorem one3_set {l : List AC} {n : Nat} (h : n < l.length) : (one3 l n).set n ⟨3, (l.getD n AC0).k, (l.getD n AC0).loc⟩ = one3 l (n + 1) := by
  apply List.ext_getElem?
  intro i
  rw [List.getElem?_set]
  simp only [one3, List.length_mapIdx, List.getElem?_mapIdx]
  by_cases e : n = i
  · subst e
    simp [h, List.getD_eq_getElem?_getD]
  · rw [if_neg e]
    by_cases h1 : i < n
    · simp [h1, show i < n + 1 from by omega]
    · simp [h1, show ¬ i < n + 1 from by omega]
theorem one3_t {l : List AC} {a : AC} (h : a ∈ one3 l l.length) : a.t = 3 ∧ ∃ b, b ∈ l ∧ a.k = b.k := by
  obtain ⟨i, hi, rfl⟩ := List.getElem_of_mem h
  rw [one3_len] at hi
  simp only [one3, List.getElem_mapIdx, if_pos hi]
  exact ⟨trivial, l[i], List.getElem_mem hi, rfl⟩
theorem one3_E {l : List AC} (hl : l.length ≤ 1000) (hm : allMay l = true) : firstE (one3 l l.length) = 0 := by
  have h := (allMay_iff l).1 hm
  have hm3 : ∀ a, a ∈ one3 l l.length → mayA a = true := fun a ha => by
    obtain ⟨h1, b, h2, h3⟩ := one3_t ha
    have := (mayA_iff b).1 (h b h2)
    exact (mayA_iff a).2 ⟨by omega, by omega, by omega, by omega⟩
  unfold firstE
  rw [if_pos ((allMay_iff _).2 hm3), (rf_iff (by rw [one3_len]; exact hl) hm3).2 (rf_one 3 fun a ha => (one3_t ha).1)]
theorem set_acD (L : List AC) (i : Nat) (a b : AC) (h : b = ⟨3, a.k, a.loc⟩) : (L.map acD).set i (setL (acD a) 0 [.v (.int .i64 3)]) = (L.set i b).map acD := by
  subst h
  rw [List.map_set]; rfl
abbrev ixA (i : Int) (n : Nat) : Int := (IntKind.i64.wrap i).tmod (n : Int)
theorem ixA_is {n : Nat} (i : Int) (hi : 0 ≤ i ∧ i ≤ 255) (hn : 0 < n) : ∃ a : Nat, a < n ∧ ixA i n = (a : Int) := by
  unfold ixA
  rw [wrap_id i (by omega) (by omega), Int.tmod_eq_emod_of_nonneg hi.1]
  have h1 := Int.emod_nonneg i (by omega : (n : Int) ≠ 0)
  have h2 := Int.emod_lt_of_pos i (by omega : 0 < (n : Int))
  exact ⟨(i % (n : Int)).toNat, by omega, by omega⟩
set_option maxHeartbeats 4000000 in
theorem RaceOrders_c (l : List AC) (i j k : Int) (hi : 0 ≤ i ∧ i ≤ 255) (hj : 0 ≤ j ∧ j ≤ 255) (hk : 0 ≤ k ∧ k ≤ 255) : Cv 3 [.d (.sl 3 (l.map acD)), u8v i, u8v j, u8v k] (bv true) := by
  have hla := len_acD l
  refine Ct.of_vc Try.f3 Try.func3 rfl rfl fun w H B g0 => ?_
  refine Spl.of (fun h1 => ?_) (fun h1 => ?_)
  · (repeat (first | refine Spl.t rfl ?_ | refine Spl.f rfl ?_))
    refine OpJ.callV Awake14_c (fun _ _ => rfl) rfl rfl rfl ?_
    (repeat (first | refine Spl.t rfl ?_ | refine Spl.f rfl ?_))
    exact FinP.open rfl rfl
  have h1 := of_decide_eq_false h1
  simp at h1
  (repeat (first | refine Spl.t rfl ?_ | refine Spl.f rfl ?_))
  refine Spl.of (fun h2 => ?_) (fun h2 => ?_)
  · (repeat (first | refine Spl.t rfl ?_ | refine Spl.f rfl ?_))
    refine OpJ.callV Awake14_c (fun _ _ => rfl) rfl rfl rfl ?_
    (repeat (first | refine Spl.t rfl ?_ | refine Spl.f rfl ?_))
    exact FinP.open rfl rfl
  have h2 := of_decide_eq_false h2
  simp at h2
  have hl0 : l.length ≠ 0 := by simpa using h1
  (repeat (first | refine Spl.t rfl ?_ | refine Spl.f rfl ?_))
  refine OpJ.callV (OfA_c l (by omega)) (fun _ _ => rfl) rfl rfl rfl ?_
  (repeat (first | refine Spl.t rfl ?_ | refine Spl.f rfl ?_))
  refine OpJ.callV (RMay_c l (by omega)) (fun _ _ => rfl) rfl rfl rfl ?_
  (repeat (first | refine Spl.t rfl ?_ | refine Spl.f rfl ?_))
  refine Spl.of (fun hm => ?_) (fun hm => ?_)
  · (repeat (first | refine Spl.t rfl ?_ | refine Spl.f rfl ?_))
    refine OpJ.callV Awake14_c (fun _ _ => rfl) rfl rfl rfl ?_
    (repeat (first | refine Spl.t rfl ?_ | refine Spl.f rfl ?_))
    exact FinP.open rfl rfl
  have hm : allMay l = true := by simpa using hm
  (repeat (first | refine Spl.t rfl ?_ | refine Spl.f rfl ?_))
  obtain ⟨a, ha, ea⟩ := ixA_is (n := l.length) i hi (by omega)
  obtain ⟨b, hb, eb⟩ := ixA_is (n := l.length) j hj (by omega)
  obtain ⟨c, hc, ec⟩ := ixA_is (n := l.length) k hk (by omega)
  have hln : (l.map acD).length = l.length := List.length_map _
  have hAB := Ahead_c l (ixA i (l.map acD).length) (ixA j (l.map acD).length) (by omega)
  have hBA := Ahead_c l (ixA j (l.map acD).length) (ixA i (l.map acD).length) (by omega)
  have hBC := Ahead_c l (ixA j (l.map acD).length) (ixA k (l.map acD).length) (by omega)
  have hAC := Ahead_c l (ixA i (l.map acD).length) (ixA k (l.map acD).length) (by omega)
  rw [← hln] at ea eb ec
  have iAB : aheadQ l (ixA i (l.map acD).length) (ixA j (l.map acD).length) = true ↔ HB l a b := by rw [ea, eb]; exact aheadQ_iff (by omega) hm ha hb
  have iBA : aheadQ l (ixA j (l.map acD).length) (ixA i (l.map acD).length) = true ↔ HB l b a := by rw [ea, eb]; exact aheadQ_iff (by omega) hm hb ha
  have iBC : aheadQ l (ixA j (l.map acD).length) (ixA k (l.map acD).length) = true ↔ HB l b c := by rw [eb, ec]; exact aheadQ_iff (by omega) hm hb hc
  have iAC : aheadQ l (ixA i (l.map acD).length) (ixA k (l.map acD).length) = true ↔ HB l a c := by rw [ea, ec]; exact aheadQ_iff (by omega) hm ha hc
  have h3 := First_c (one3 l l.length) (by rw [one3_len]; omega)
  obtain ⟨fx, fy, he⟩ := firstV_is (one3 l l.length)
  rw [he] at h3
  have h3n : 0 + (l.map acD).length ≤ ((one3 l l.length).map acD).length := by rw [List.length_map, List.length_map, one3_len]; omega
  have h3m : 0 + (l.map acD).length ≤ 9223372036854775807 := by omega
  rw [← List.take_of_length_le (l := (one3 l l.length).map acD) (i := 0 + (l.map acD).length) (by rw [List.length_map, List.length_map, one3_len]; omega)] at h3
  refine RegP.of rfl (by decide +kernel) ?_
  refine Req.of (by omega) ?_
  refine Req.of (by omega) ?_
  refine Req.of (by omega) ?_
  (repeat (first | refine Spl.t rfl ?_ | refine Spl.f rfl ?_))
  refine RegP.of rfl (by decide +kernel) ?_
  refine QuietP.of (QJ.call hAB (fun _ _ => rfl) rfl rfl) ?_
  (repeat (first | refine Spl.t rfl ?_ | refine Spl.f rfl ?_))
  refine Spl.of (fun g1 => ?_) (fun g1 => ?_)
  · have p1 := iAB.1 g1
    (repeat (first | refine Spl.t rfl ?_ | refine Spl.f rfl ?_))
    refine QuietP.of (QJ.call hBA (fun _ _ => rfl) rfl rfl) ?_
    (repeat (first | refine Spl.t rfl ?_ | refine Spl.f rfl ?_))
    refine Spl.of (fun g2 => ?_) (fun g2 => ?_)
    · have p2 := iBA.1 g2
      have := p1.lt; have := p2.lt; omega
    · (repeat (first | refine Spl.t rfl ?_ | refine Spl.f rfl ?_))
      refine QuietP.of (QJ.call hBC (fun _ _ => rfl) rfl rfl) ?_
      (repeat (first | refine Spl.t rfl ?_ | refine Spl.f rfl ?_))
      refine Spl.of (fun g3 => ?_) (fun g3 => ?_)
      · have p3 := iBC.1 g3
        (repeat (first | refine Spl.t rfl ?_ | refine Spl.f rfl ?_))
        refine QuietP.of (QJ.call hAC (fun _ _ => rfl) rfl rfl) ?_
        (repeat (first | refine Spl.t rfl ?_ | refine Spl.f rfl ?_))
        refine Spl.of (fun g4 => ?_) (fun g4 => ?_)
        · rw [iAC.2 (p1.tr p3)] at g4; cases g4
        · (repeat (first | refine Spl.t rfl ?_ | refine Spl.f rfl ?_))
          refine Spl.of (fun g5 => ?_) (fun g5 => ?_)
          · have g5' : ixA i (l.map acD).length < ixA j (l.map acD).length := of_decide_eq_true g5
            rw [ea, eb] at g5'
            (repeat (first | refine Spl.t rfl ?_ | refine Spl.f rfl ?_))
            refine IdxP.of (acD (l.getD a AC0)) (by show 0 ≤ ixA i (l.map acD).length; omega) (by show (l.map acD)[(ixA i (l.map acD).length).toNat]? = _; rw [ea, Int.toNat_natCast]; exact get_acD ha) ?_
            (repeat (first | refine Spl.t rfl ?_ | refine Spl.f rfl ?_))
            refine IdxP.of (acD (l.getD b AC0)) (by show 0 ≤ ixA j (l.map acD).length; omega) (by show (l.map acD)[(ixA j (l.map acD).length).toNat]? = _; rw [eb, Int.toNat_natCast]; exact get_acD hb) ?_
            (repeat (first | refine Spl.t rfl ?_ | refine Spl.f rfl ?_))
            refine Spl.of (fun g6 => ?_) (fun g6 => ?_)
            · have hd := HB.dir (by omega) (getA ha) (getA hb) (.inl (of_decide_eq_true g6))
              (repeat (first | refine Spl.t rfl ?_ | refine Spl.f rfl ?_))
              refine QuietP.of (QJ.call hAB (fun _ _ => rfl) rfl rfl) ?_
              (repeat (first | refine Spl.t rfl ?_ | refine Spl.f rfl ?_))
              refine Spl.of (fun g7 => ?_) (fun g7 => ?_)
              · rw [iAB.2 hd] at g7; cases g7
              · skip
                (repeat (first | refine Spl.t rfl ?_ | refine Spl.f rfl ?_))
                refine O.appF rfl rfl (.full _ _) rfl rfl rfl rfl (by show 0 + _ ≤ _; omega) (.inr rfl) ?_
                (repeat (first | refine Spl.t rfl ?_ | refine Spl.f rfl ?_))
                refine WJ.loopK (V := Nat) (fun n => [(100, iv n)]) (fun n => [(97, .arr 3 ((one3 l n).map acD))]) [97] (fun n => l.length - n) (fun n => n ≤ l.length) 0 (Nat.zero_le _) (by repeat' (first | exact trivial | exact rfl | refine And.intro ?_ ?_)) ⟨by rw [one3_zero]; rfl, trivial⟩ ?_
                intro n hn
                refine Spl.of (fun q1 => ?_) (fun q1 => ?_)
                · have q1 : (n : Int) < ((0 + (l.map acD).length : Nat) : Int) := of_decide_eq_true q1
                  have hlt : n < l.length := by omega
                  have hg : ((one3 l n).map acD)[n]? = some (acD (l.getD n AC0)) := by rw [List.getElem?_map, one3_get hlt]; rfl
                  (repeat (first | refine Spl.t rfl ?_ | refine Spl.f rfl ?_))
                  refine Req.of ?_ ?_
                  · exact ⟨by omega, q1⟩
                  refine StoreP.of n 0 _ (by show (n : Int).toNat * 3 + 0 = n * 3 + 0; omega) hg (Nat.le_of_ble_eq_true rfl) rfl ?_
                  (repeat (first | refine Spl.t rfl ?_ | refine Spl.f rfl ?_))
                  refine ⟨n + 1, by omega, by omega, ⟨some_iv (wrap_id _ (by omega) (by omega)), trivial⟩, (by repeat' (first | exact trivial | exact rfl | refine And.intro ?_ ?_)), ⟨?_, trivial⟩, (by repeat' (first | exact trivial | exact rfl | refine And.intro ?_ ?_))⟩
                  exact congrArg (fun x => some (Ent.arr 3 x)) ((set_acD (one3 l n) n (l.getD n AC0) _ rfl).trans (by rw [one3_set hlt]))
                · have q1 : ¬ (n : Int) < ((0 + (l.map acD).length : Nat) : Int) := of_decide_eq_false q1
                  obtain rfl : n = l.length := by omega
                  (repeat (first | refine Spl.t rfl ?_ | refine Spl.f rfl ?_))
                  refine OpJ.shift (SJ.pubA 97 109 rfl rfl h3n h3m) ?_
                  refine OpJ.callV h3 (fun _ _ => rfl) rfl rfl rfl ?_
                  (repeat (first | refine Spl.t rfl ?_ | refine Spl.f rfl ?_))
                  refine OpJ.callV Awake14_c (fun _ _ => rfl) rfl rfl rfl ?_
                  (repeat (first | refine Spl.t rfl ?_ | refine Spl.f rfl ?_))
                  exact FinP.open rfl (congrArg bv (by rw [one3_E (by omega) hm]; rfl))

            · skip
              (repeat (first | refine Spl.t rfl ?_ | refine Spl.f rfl ?_))
              refine O.appF rfl rfl (.full _ _) rfl rfl rfl rfl (by show 0 + _ ≤ _; omega) (.inr rfl) ?_
              (repeat (first | refine Spl.t rfl ?_ | refine Spl.f rfl ?_))
              refine WJ.loopK (V := Nat) (fun n => [(100, iv n)]) (fun n => [(97, .arr 3 ((one3 l n).map acD))]) [97] (fun n => l.length - n) (fun n => n ≤ l.length) 0 (Nat.zero_le _) (by repeat' (first | exact trivial | exact rfl | refine And.intro ?_ ?_)) ⟨by rw [one3_zero]; rfl, trivial⟩ ?_
              intro n hn
              refine Spl.of (fun q1 => ?_) (fun q1 => ?_)
              · have q1 : (n : Int) < ((0 + (l.map acD).length : Nat) : Int) := of_decide_eq_true q1
                have hlt : n < l.length := by omega
                have hg : ((one3 l n).map acD)[n]? = some (acD (l.getD n AC0)) := by rw [List.getElem?_map, one3_get hlt]; rfl
                (repeat (first | refine Spl.t rfl ?_ | refine Spl.f rfl ?_))
                refine Req.of ?_ ?_
                · exact ⟨by omega, q1⟩
                refine StoreP.of n 0 _ (by show (n : Int).toNat * 3 + 0 = n * 3 + 0; omega) hg (Nat.le_of_ble_eq_true rfl) rfl ?_
                (repeat (first | refine Spl.t rfl ?_ | refine Spl.f rfl ?_))
                refine ⟨n + 1, by omega, by omega, ⟨some_iv (wrap_id _ (by omega) (by omega)), trivial⟩, (by repeat' (first | exact trivial | exact rfl | refine And.intro ?_ ?_)), ⟨?_, trivial⟩, (by repeat' (first | exact trivial | exact rfl | refine And.intro ?_ ?_))⟩
                exact congrArg (fun x => some (Ent.arr 3 x)) ((set_acD (one3 l n) n (l.getD n AC0) _ rfl).trans (by rw [one3_set hlt]))
              · have q1 : ¬ (n : Int) < ((0 + (l.map acD).length : Nat) : Int) := of_decide_eq_false q1
                obtain rfl : n = l.length := by omega
                (repeat (first | refine Spl.t rfl ?_ | refine Spl.f rfl ?_))
                refine OpJ.shift (SJ.pubA 97 109 rfl rfl h3n h3m) ?_
                refine OpJ.callV h3 (fun _ _ => rfl) rfl rfl rfl ?_
                (repeat (first | refine Spl.t rfl ?_ | refine Spl.f rfl ?_))
                refine OpJ.callV Awake14_c (fun _ _ => rfl) rfl rfl rfl ?_
                (repeat (first | refine Spl.t rfl ?_ | refine Spl.f rfl ?_))
                exact FinP.open rfl (congrArg bv (by rw [one3_E (by omega) hm]; rfl))

          · skip
            (repeat (first | refine Spl.t rfl ?_ | refine Spl.f rfl ?_))
            refine O.appF rfl rfl (.full _ _) rfl rfl rfl rfl (by show 0 + _ ≤ _; omega) (.inr rfl) ?_
            (repeat (first | refine Spl.t rfl ?_ | refine Spl.f rfl ?_))
            refine WJ.loopK (V := Nat) (fun n => [(100, iv n)]) (fun n => [(97, .arr 3 ((one3 l n).map acD))]) [97] (fun n => l.length - n) (fun n => n ≤ l.length) 0 (Nat.zero_le _) (by repeat' (first | exact trivial | exact rfl | refine And.intro ?_ ?_)) ⟨by rw [one3_zero]; rfl, trivial⟩ ?_
            intro n hn
            refine Spl.of (fun q1 => ?_) (fun q1 => ?_)
            · have q1 : (n : Int) < ((0 + (l.map acD).length : Nat) : Int) := of_decide_eq_true q1
              have hlt : n < l.length := by omega
              have hg : ((one3 l n).map acD)[n]? = some (acD (l.getD n AC0)) := by rw [List.getElem?_map, one3_get hlt]; rfl
              (repeat (first | refine Spl.t rfl ?_ | refine Spl.f rfl ?_))
              refine Req.of ?_ ?_
              · exact ⟨by omega, q1⟩
              refine StoreP.of n 0 _ (by show (n : Int).toNat * 3 + 0 = n * 3 + 0; omega) hg (Nat.le_of_ble_eq_true rfl) rfl ?_
              (repeat (first | refine Spl.t rfl ?_ | refine Spl.f rfl ?_))
              refine ⟨n + 1, by omega, by omega, ⟨some_iv (wrap_id _ (by omega) (by omega)), trivial⟩, (by repeat' (first | exact trivial | exact rfl | refine And.intro ?_ ?_)), ⟨?_, trivial⟩, (by repeat' (first | exact trivial | exact rfl | refine And.intro ?_ ?_))⟩
              exact congrArg (fun x => some (Ent.arr 3 x)) ((set_acD (one3 l n) n (l.getD n AC0) _ rfl).trans (by rw [one3_set hlt]))
            · have q1 : ¬ (n : Int) < ((0 + (l.map acD).length : Nat) : Int) := of_decide_eq_false q1
              obtain rfl : n = l.length := by omega
              (repeat (first | refine Spl.t rfl ?_ | refine Spl.f rfl ?_))
              refine OpJ.shift (SJ.pubA 97 109 rfl rfl h3n h3m) ?_
              refine OpJ.callV h3 (fun _ _ => rfl) rfl rfl rfl ?_
              (repeat (first | refine Spl.t rfl ?_ | refine Spl.f rfl ?_))
              refine OpJ.callV Awake14_c (fun _ _ => rfl) rfl rfl rfl ?_
              (repeat (first | refine Spl.t rfl ?_ | refine Spl.f rfl ?_))
              exact FinP.open rfl (congrArg bv (by rw [one3_E (by omega) hm]; rfl))

      · (repeat (first | refine Spl.t rfl ?_ | refine Spl.f rfl ?_))
        refine Spl.of (fun g5 => ?_) (fun g5 => ?_)
        · have g5' : ixA i (l.map acD).length < ixA j (l.map acD).length := of_decide_eq_true g5
          rw [ea, eb] at g5'
          (repeat (first | refine Spl.t rfl ?_ | refine Spl.f rfl ?_))
          refine IdxP.of (acD (l.getD a AC0)) (by show 0 ≤ ixA i (l.map acD).length; omega) (by show (l.map acD)[(ixA i (l.map acD).length).toNat]? = _; rw [ea, Int.toNat_natCast]; exact get_acD ha) ?_
          (repeat (first | refine Spl.t rfl ?_ | refine Spl.f rfl ?_))
          refine IdxP.of (acD (l.getD b AC0)) (by show 0 ≤ ixA j (l.map acD).length; omega) (by show (l.map acD)[(ixA j (l.map acD).length).toNat]? = _; rw [eb, Int.toNat_natCast]; exact get_acD hb) ?_
          (repeat (first | refine Spl.t rfl ?_ | refine Spl.f rfl ?_))
          refine Spl.of (fun g6 => ?_) (fun g6 => ?_)
          · have hd := HB.dir (by omega) (getA ha) (getA hb) (.inl (of_decide_eq_true g6))
            (repeat (first | refine Spl.t rfl ?_ | refine Spl.f rfl ?_))
            refine QuietP.of (QJ.call hAB (fun _ _ => rfl) rfl rfl) ?_
            (repeat (first | refine Spl.t rfl ?_ | refine Spl.f rfl ?_))
            refine Spl.of (fun g7 => ?_) (fun g7 => ?_)
            · rw [iAB.2 hd] at g7; cases g7
            · skip
              (repeat (first | refine Spl.t rfl ?_ | refine Spl.f rfl ?_))
              refine O.appF rfl rfl (.full _ _) rfl rfl rfl rfl (by show 0 + _ ≤ _; omega) (.inr rfl) ?_
              (repeat (first | refine Spl.t rfl ?_ | refine Spl.f rfl ?_))
              refine WJ.loopK (V := Nat) (fun n => [(100, iv n)]) (fun n => [(97, .arr 3 ((one3 l n).map acD))]) [97] (fun n => l.length - n) (fun n => n ≤ l.length) 0 (Nat.zero_le _) (by repeat' (first | exact trivial | exact rfl | refine And.intro ?_ ?_)) ⟨by rw [one3_zero]; rfl, trivial⟩ ?_
              intro n hn
              refine Spl.of (fun q1 => ?_) (fun q1 => ?_)
              · have q1 : (n : Int) < ((0 + (l.map acD).length : Nat) : Int) := of_decide_eq_true q1
                have hlt : n < l.length := by omega
                have hg : ((one3 l n).map acD)[n]? = some (acD (l.getD n AC0)) := by rw [List.getElem?_map, one3_get hlt]; rfl
                (repeat (first | refine Spl.t rfl ?_ | refine Spl.f rfl ?_))
                refine Req.of ?_ ?_
                · exact ⟨by omega, q1⟩
                refine StoreP.of n 0 _ (by show (n : Int).toNat * 3 + 0 = n * 3 + 0; omega) hg (Nat.le_of_ble_eq_true rfl) rfl ?_
                (repeat (first | refine Spl.t rfl ?_ | refine Spl.f rfl ?_))
                refine ⟨n + 1, by omega, by omega, ⟨some_iv (wrap_id _ (by omega) (by omega)), trivial⟩, (by repeat' (first | exact trivial | exact rfl | refine And.intro ?_ ?_)), ⟨?_, trivial⟩, (by repeat' (first | exact trivial | exact rfl | refine And.intro ?_ ?_))⟩
                exact congrArg (fun x => some (Ent.arr 3 x)) ((set_acD (one3 l n) n (l.getD n AC0) _ rfl).trans (by rw [one3_set hlt]))
              · have q1 : ¬ (n : Int) < ((0 + (l.map acD).length : Nat) : Int) := of_decide_eq_false q1
                obtain rfl : n = l.length := by omega
                (repeat (first | refine Spl.t rfl ?_ | refine Spl.f rfl ?_))
                refine OpJ.shift (SJ.pubA 97 109 rfl rfl h3n h3m) ?_
                refine OpJ.callV h3 (fun _ _ => rfl) rfl rfl rfl ?_
                (repeat (first | refine Spl.t rfl ?_ | refine Spl.f rfl ?_))
                refine OpJ.callV Awake14_c (fun _ _ => rfl) rfl rfl rfl ?_
                (repeat (first | refine Spl.t rfl ?_ | refine Spl.f rfl ?_))
                exact FinP.open rfl (congrArg bv (by rw [one3_E (by omega) hm]; rfl))

          · skip
            (repeat (first | refine Spl.t rfl ?_ | refine Spl.f rfl ?_))
            refine O.appF rfl rfl (.full _ _) rfl rfl rfl rfl (by show 0 + _ ≤ _; omega) (.inr rfl) ?_
            (repeat (first | refine Spl.t rfl ?_ | refine Spl.f rfl ?_))
            refine WJ.loopK (V := Nat) (fun n => [(100, iv n)]) (fun n => [(97, .arr 3 ((one3 l n).map acD))]) [97] (fun n => l.length - n) (fun n => n ≤ l.length) 0 (Nat.zero_le _) (by repeat' (first | exact trivial | exact rfl | refine And.intro ?_ ?_)) ⟨by rw [one3_zero]; rfl, trivial⟩ ?_
            intro n hn
            refine Spl.of (fun q1 => ?_) (fun q1 => ?_)
            · have q1 : (n : Int) < ((0 + (l.map acD).length : Nat) : Int) := of_decide_eq_true q1
              have hlt : n < l.length := by omega
              have hg : ((one3 l n).map acD)[n]? = some (acD (l.getD n AC0)) := by rw [List.getElem?_map, one3_get hlt]; rfl
              (repeat (first | refine Spl.t rfl ?_ | refine Spl.f rfl ?_))
              refine Req.of ?_ ?_
              · exact ⟨by omega, q1⟩
              refine StoreP.of n 0 _ (by show (n : Int).toNat * 3 + 0 = n * 3 + 0; omega) hg (Nat.le_of_ble_eq_true rfl) rfl ?_
              (repeat (first | refine Spl.t rfl ?_ | refine Spl.f rfl ?_))
              refine ⟨n + 1, by omega, by omega, ⟨some_iv (wrap_id _ (by omega) (by omega)), trivial⟩, (by repeat' (first | exact trivial | exact rfl | refine And.intro ?_ ?_)), ⟨?_, trivial⟩, (by repeat' (first | exact trivial | exact rfl | refine And.intro ?_ ?_))⟩
              exact congrArg (fun x => some (Ent.arr 3 x)) ((set_acD (one3 l n) n (l.getD n AC0) _ rfl).trans (by rw [one3_set hlt]))
            · have q1 : ¬ (n : Int) < ((0 + (l.map acD).length : Nat) : Int) := of_decide_eq_false q1
              obtain rfl : n = l.length := by omega
              (repeat (first | refine Spl.t rfl ?_ | refine Spl.f rfl ?_))
              refine OpJ.shift (SJ.pubA 97 109 rfl rfl h3n h3m) ?_
              refine OpJ.callV h3 (fun _ _ => rfl) rfl rfl rfl ?_
              (repeat (first | refine Spl.t rfl ?_ | refine Spl.f rfl ?_))
              refine OpJ.callV Awake14_c (fun _ _ => rfl) rfl rfl rfl ?_
              (repeat (first | refine Spl.t rfl ?_ | refine Spl.f rfl ?_))
              exact FinP.open rfl (congrArg bv (by rw [one3_E (by omega) hm]; rfl))

        · skip
          (repeat (first | refine Spl.t rfl ?_ | refine Spl.f rfl ?_))
          refine O.appF rfl rfl (.full _ _) rfl rfl rfl rfl (by show 0 + _ ≤ _; omega) (.inr rfl) ?_
          (repeat (first | refine Spl.t rfl ?_ | refine Spl.f rfl ?_))
          refine WJ.loopK (V := Nat) (fun n => [(100, iv n)]) (fun n => [(97, .arr 3 ((one3 l n).map acD))]) [97] (fun n => l.length - n) (fun n => n ≤ l.length) 0 (Nat.zero_le _) (by repeat' (first | exact trivial | exact rfl | refine And.intro ?_ ?_)) ⟨by rw [one3_zero]; rfl, trivial⟩ ?_
          intro n hn
          refine Spl.of (fun q1 => ?_) (fun q1 => ?_)
          · have q1 : (n : Int) < ((0 + (l.map acD).length : Nat) : Int) := of_decide_eq_true q1
            have hlt : n < l.length := by omega
            have hg : ((one3 l n).map acD)[n]? = some (acD (l.getD n AC0)) := by rw [List.getElem?_map, one3_get hlt]; rfl
            (repeat (first | refine Spl.t rfl ?_ | refine Spl.f rfl ?_))
            refine Req.of ?_ ?_
            · exact ⟨by omega, q1⟩
            refine StoreP.of n 0 _ (by show (n : Int).toNat * 3 + 0 = n * 3 + 0; omega) hg (Nat.le_of_ble_eq_true rfl) rfl ?_
            (repeat (first | refine Spl.t rfl ?_ | refine Spl.f rfl ?_))
            refine ⟨n + 1, by omega, by omega, ⟨some_iv (wrap_id _ (by omega) (by omega)), trivial⟩, (by repeat' (first | exact trivial | exact rfl | refine And.intro ?_ ?_)), ⟨?_, trivial⟩, (by repeat' (first | exact trivial | exact rfl | refine And.intro ?_ ?_))⟩
            exact congrArg (fun x => some (Ent.arr 3 x)) ((set_acD (one3 l n) n (l.getD n AC0) _ rfl).trans (by rw [one3_set hlt]))
          · have q1 : ¬ (n : Int) < ((0 + (l.map acD).length : Nat) : Int) := of_decide_eq_false q1
            obtain rfl : n = l.length := by omega
            (repeat (first | refine Spl.t rfl ?_ | refine Spl.f rfl ?_))
            refine OpJ.shift (SJ.pubA 97 109 rfl rfl h3n h3m) ?_
            refine OpJ.callV h3 (fun _ _ => rfl) rfl rfl rfl ?_
            (repeat (first | refine Spl.t rfl ?_ | refine Spl.f rfl ?_))
            refine OpJ.callV Awake14_c (fun _ _ => rfl) rfl rfl rfl ?_
            (repeat (first | refine Spl.t rfl ?_ | refine Spl.f rfl ?_))
            exact FinP.open rfl (congrArg bv (by rw [one3_E (by omega) hm]; rfl))

  · (repeat (first | refine Spl.t rfl ?_ | refine Spl.f rfl ?_))
    refine Spl.of (fun g5 => ?_) (fun g5 => ?_)
    · have g5' : ixA i (l.map acD).length < ixA j (l.map acD).length := of_decide_eq_true g5
      rw [ea, eb] at g5'
      (repeat (first | refine Spl.t rfl ?_ | refine Spl.f rfl ?_))
      refine IdxP.of (acD (l.getD a AC0)) (by show 0 ≤ ixA i (l.map acD).length; omega) (by show (l.map acD)[(ixA i (l.map acD).length).toNat]? = _; rw [ea, Int.toNat_natCast]; exact get_acD ha) ?_
      (repeat (first | refine Spl.t rfl ?_ | refine Spl.f rfl ?_))
      refine IdxP.of (acD (l.getD b AC0)) (by show 0 ≤ ixA j (l.map acD).length; omega) (by show (l.map acD)[(ixA j (l.map acD).length).toNat]? = _; rw [eb, Int.toNat_natCast]; exact get_acD hb) ?_
      (repeat (first | refine Spl.t rfl ?_ | refine Spl.f rfl ?_))
      refine Spl.of (fun g6 => ?_) (fun g6 => ?_)
      · have hd := HB.dir (by omega) (getA ha) (getA hb) (.inl (of_decide_eq_true g6))
        (repeat (first | refine Spl.t rfl ?_ | refine Spl.f rfl ?_))
        refine QuietP.of (QJ.call hAB (fun _ _ => rfl) rfl rfl) ?_
        (repeat (first | refine Spl.t rfl ?_ | refine Spl.f rfl ?_))
        refine Spl.of (fun g7 => ?_) (fun g7 => ?_)
        · rw [iAB.2 hd] at g7; cases g7
        · skip
          (repeat (first | refine Spl.t rfl ?_ | refine Spl.f rfl ?_))
          refine O.appF rfl rfl (.full _ _) rfl rfl rfl rfl (by show 0 + _ ≤ _; omega) (.inr rfl) ?_
          (repeat (first | refine Spl.t rfl ?_ | refine Spl.f rfl ?_))
          refine WJ.loopK (V := Nat) (fun n => [(100, iv n)]) (fun n => [(97, .arr 3 ((one3 l n).map acD))]) [97] (fun n => l.length - n) (fun n => n ≤ l.length) 0 (Nat.zero_le _) (by repeat' (first | exact trivial | exact rfl | refine And.intro ?_ ?_)) ⟨by rw [one3_zero]; rfl, trivial⟩ ?_
          intro n hn
          refine Spl.of (fun q1 => ?_) (fun q1 => ?_)
          · have q1 : (n : Int) < ((0 + (l.map acD).length : Nat) : Int) := of_decide_eq_true q1
            have hlt : n < l.length := by omega
            have hg : ((one3 l n).map acD)[n]? = some (acD (l.getD n AC0)) := by rw [List.getElem?_map, one3_get hlt]; rfl
            (repeat (first | refine Spl.t rfl ?_ | refine Spl.f rfl ?_))
            refine Req.of ?_ ?_
            · exact ⟨by omega, q1⟩
            refine StoreP.of n 0 _ (by show (n : Int).toNat * 3 + 0 = n * 3 + 0; omega) hg (Nat.le_of_ble_eq_true rfl) rfl ?_
            (repeat (first | refine Spl.t rfl ?_ | refine Spl.f rfl ?_))
            refine ⟨n + 1, by omega, by omega, ⟨some_iv (wrap_id _ (by omega) (by omega)), trivial⟩, (by repeat' (first | exact trivial | exact rfl | refine And.intro ?_ ?_)), ⟨?_, trivial⟩, (by repeat' (first | exact trivial | exact rfl | refine And.intro ?_ ?_))⟩
            exact congrArg (fun x => some (Ent.arr 3 x)) ((set_acD (one3 l n) n (l.getD n AC0) _ rfl).trans (by rw [one3_set hlt]))
          · have q1 : ¬ (n : Int) < ((0 + (l.map acD).length : Nat) : Int) := of_decide_eq_false q1
            obtain rfl : n = l.length := by omega
            (repeat (first | refine Spl.t rfl ?_ | refine Spl.f rfl ?_))
            refine OpJ.shift (SJ.pubA 97 109 rfl rfl h3n h3m) ?_
            refine OpJ.callV h3 (fun _ _ => rfl) rfl rfl rfl ?_
            (repeat (first | refine Spl.t rfl ?_ | refine Spl.f rfl ?_))
            refine OpJ.callV Awake14_c (fun _ _ => rfl) rfl rfl rfl ?_
            (repeat (first | refine Spl.t rfl ?_ | refine Spl.f rfl ?_))
            exact FinP.open rfl (congrArg bv (by rw [one3_E (by omega) hm]; rfl))

      · skip
        (repeat (first | refine Spl.t rfl ?_ | refine Spl.f rfl ?_))
        refine O.appF rfl rfl (.full _ _) rfl rfl rfl rfl (by show 0 + _ ≤ _; omega) (.inr rfl) ?_
        (repeat (first | refine Spl.t rfl ?_ | refine Spl.f rfl ?_))
        refine WJ.loopK (V := Nat) (fun n => [(100, iv n)]) (fun n => [(97, .arr 3 ((one3 l n).map acD))]) [97] (fun n => l.length - n) (fun n => n ≤ l.length) 0 (Nat.zero_le _) (by repeat' (first | exact trivial | exact rfl | refine And.intro ?_ ?_)) ⟨by rw [one3_zero]; rfl, trivial⟩ ?_
        intro n hn
        refine Spl.of (fun q1 => ?_) (fun q1 => ?_)
        · have q1 : (n : Int) < ((0 + (l.map acD).length : Nat) : Int) := of_decide_eq_true q1
          have hlt : n < l.length := by omega
          have hg : ((one3 l n).map acD)[n]? = some (acD (l.getD n AC0)) := by rw [List.getElem?_map, one3_get hlt]; rfl
          (repeat (first | refine Spl.t rfl ?_ | refine Spl.f rfl ?_))
          refine Req.of ?_ ?_
          · exact ⟨by omega, q1⟩
          refine StoreP.of n 0 _ (by show (n : Int).toNat * 3 + 0 = n * 3 + 0; omega) hg (Nat.le_of_ble_eq_true rfl) rfl ?_
          (repeat (first | refine Spl.t rfl ?_ | refine Spl.f rfl ?_))
          refine ⟨n + 1, by omega, by omega, ⟨some_iv (wrap_id _ (by omega) (by omega)), trivial⟩, (by repeat' (first | exact trivial | exact rfl | refine And.intro ?_ ?_)), ⟨?_, trivial⟩, (by repeat' (first | exact trivial | exact rfl | refine And.intro ?_ ?_))⟩
          exact congrArg (fun x => some (Ent.arr 3 x)) ((set_acD (one3 l n) n (l.getD n AC0) _ rfl).trans (by rw [one3_set hlt]))
        · have q1 : ¬ (n : Int) < ((0 + (l.map acD).length : Nat) : Int) := of_decide_eq_false q1
          obtain rfl : n = l.length := by omega
          (repeat (first | refine Spl.t rfl ?_ | refine Spl.f rfl ?_))
          refine OpJ.shift (SJ.pubA 97 109 rfl rfl h3n h3m) ?_
          refine OpJ.callV h3 (fun _ _ => rfl) rfl rfl rfl ?_
          (repeat (first | refine Spl.t rfl ?_ | refine Spl.f rfl ?_))
          refine OpJ.callV Awake14_c (fun _ _ => rfl) rfl rfl rfl ?_
          (repeat (first | refine Spl.t rfl ?_ | refine Spl.f rfl ?_))
          exact FinP.open rfl (congrArg bv (by rw [one3_E (by omega) hm]; rfl))

    · skip
      (repeat (first | refine Spl.t rfl ?_ | refine Spl.f rfl ?_))
      refine O.appF rfl rfl (.full _ _) rfl rfl rfl rfl (by show 0 + _ ≤ _; omega) (.inr rfl) ?_
      (repeat (first | refine Spl.t rfl ?_ | refine Spl.f rfl ?_))
      refine WJ.loopK (V := Nat) (fun n => [(100, iv n)]) (fun n => [(97, .arr 3 ((one3 l n).map acD))]) [97] (fun n => l.length - n) (fun n => n ≤ l.length) 0 (Nat.zero_le _) (by repeat' (first | exact trivial | exact rfl | refine And.intro ?_ ?_)) ⟨by rw [one3_zero]; rfl, trivial⟩ ?_
      intro n hn
      refine Spl.of (fun q1 => ?_) (fun q1 => ?_)
      · have q1 : (n : Int) < ((0 + (l.map acD).length : Nat) : Int) := of_decide_eq_true q1
        have hlt : n < l.length := by omega
        have hg : ((one3 l n).map acD)[n]? = some (acD (l.getD n AC0)) := by rw [List.getElem?_map, one3_get hlt]; rfl
        (repeat (first | refine Spl.t rfl ?_ | refine Spl.f rfl ?_))
        refine Req.of ?_ ?_
        · exact ⟨by omega, q1⟩
        refine StoreP.of n 0 _ (by show (n : Int).toNat * 3 + 0 = n * 3 + 0; omega) hg (Nat.le_of_ble_eq_true rfl) rfl ?_
        (repeat (first | refine Spl.t rfl ?_ | refine Spl.f rfl ?_))
        refine ⟨n + 1, by omega, by omega, ⟨some_iv (wrap_id _ (by omega) (by omega)), trivial⟩, (by repeat' (first | exact trivial | exact rfl | refine And.intro ?_ ?_)), ⟨?_, trivial⟩, (by repeat' (first | exact trivial | exact rfl | refine And.intro ?_ ?_))⟩
        exact congrArg (fun x => some (Ent.arr 3 x)) ((set_acD (one3 l n) n (l.getD n AC0) _ rfl).trans (by rw [one3_set hlt]))
      · have q1 : ¬ (n : Int) < ((0 + (l.map acD).length : Nat) : Int) := of_decide_eq_false q1
        obtain rfl : n = l.length := by omega
        (repeat (first | refine Spl.t rfl ?_ | refine Spl.f rfl ?_))
        refine OpJ.shift (SJ.pubA 97 109 rfl rfl h3n h3m) ?_
        refine OpJ.callV h3 (fun _ _ => rfl) rfl rfl rfl ?_
        (repeat (first | refine Spl.t rfl ?_ | refine Spl.f rfl ?_))
        refine OpJ.callV Awake14_c (fun _ _ => rfl) rfl rfl rfl ?_
        (repeat (first | refine Spl.t rfl ?_ | refine Spl.f rfl ?_))
        exact FinP.open rfl (congrArg bv (by rw [one3_E (by omega) hm]; rfl))
end Go.Proofs.E
end
section
open Go Go.Gv
attribute [local irreducible] Go.Gv.WJ Go.Gv.OpJ Go.Gv.QJ Go.Gv.Spl Go.Gv.Req Go.Gv.IdxP Go.Gv.RegP Go.Gv.FinP Go.Gv.CellP Go.Gv.CellsP Go.Gv.ArrP Go.Gv.ArrsP Go.Gv.DropP Go.Gv.ByteP Go.Gv.StoreP
set_option maxRecDepth 100000
namespace Go.Proofs.E
end Go.Proofs.E
end
section
namespace Go.Proofs.E
open Go Go.Gv
theorem u8_rng {n : Int} (h : (Lit.int .u8 n).wf = true) : 0 ≤ n ∧ n ≤ 255 := by
  simp [Lit.wf, IntKind.min, IntKind.max, IntKind.signed, IntKind.bits] at h
  omega
end Go.Proofs.E
end
section
open Go Go.Gv
attribute [local irreducible] Go.Gv.WJ Go.Gv.OpJ Go.Gv.QJ Go.Gv.Spl Go.Gv.Req Go.Gv.IdxP Go.Gv.RegP Go.Gv.FinP Go.Gv.CellP Go.Gv.CellsP Go.Gv.ArrP Go.Gv.ArrsP Go.Gv.DropP Go.Gv.ByteP Go.Gv.StoreP
namespace Go.Proofs.E
theorem acRow (cs : List D) (h : (Ty.st [.int .i64, .int .i64, .int .i64]).ok cs) : ∃ x : AC, cs = acD x ∧ True := by
  obtain ⟨_, _, rfl, ⟨a0, rfl, _⟩, ⟨_, _, rfl, ⟨a1, rfl, _⟩, ⟨_, _, rfl, ⟨a2, rfl, _⟩, rfl⟩⟩⟩ := h
  exact ⟨⟨a0, a1, a2⟩, rfl, trivial⟩
end Go.Proofs.E
end
