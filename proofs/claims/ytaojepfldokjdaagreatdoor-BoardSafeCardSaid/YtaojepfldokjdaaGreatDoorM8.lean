/- Laws that the claim's text stands on: Traces: the clocks of all acts, and what they tell; Traces: which acts race; Traces: the small functions on acts and clocks; Clocks compared; the clocks of all acts of a trace; Rows of a map: a private thing of many rows, each known by its place; The clocks of all acts of a trace; Traces: which act is ahead; the acts of a place; A board: what it is, and the functions that read it, and add to its trace; A board: its locks and queues; A board: what is pushed and popped; A board: its slots; A board: slots filled and fetched; A region that draws its order: quiet operations, and one that changes what is private, of which not all of them wait; Traces: the first two acts that race; The document's order of a trace, as rows; The document's order of a trace: its walk; The document's races; what a read sees; the example; What a read sees; the example; A board: slots asked for; a new board; the example. -/
import Derived.Test.YtaojepfldokjdaaGreatDoorM1
import Derived.Test.YtaojepfldokjdaaGreatDoorM2
import Derived.Test.YtaojepfldokjdaaGreatDoorM3
import Derived.Test.YtaojepfldokjdaaGreatDoorDShelf
import Derived.Test.YtaojepfldokjdaaGreatDoorM4
import Derived.Test.YtaojepfldokjdaaGreatDoorM5
import Derived.Test.YtaojepfldokjdaaGreatDoorM6
import Derived.Test.YtaojepfldokjdaaGreatDoorM7
import Derived.Laws.MakeOwn
import Derived.Shelf.SlMaps.Clone
set_option linter.unusedVariables false
set_option linter.unusedSimpArgs false
section
open Go Go.Gv
attribute [local irreducible] Go.Gv.WJ Go.Gv.OpJ Go.Gv.QJ Go.Gv.Spl Go.Gv.Req Go.Gv.IdxP Go.Gv.RegP Go.Gv.FinP Go.Gv.CellP Go.Gv.CellsP Go.Gv.ArrP Go.Gv.ArrsP Go.Gv.DropP Go.Gv.ByteP Go.Gv.StoreP
set_option maxRecDepth 100000
namespace Go.Proofs.E
def mayA (a : TA) : Bool := decide (0 ≤ a.t) && decide (a.t < 16) && decide (0 ≤ a.k) && decide (a.k ≤ 3)
theorem mayA_iff (a : TA) : mayA a = true ↔ 0 ≤ a.t ∧ a.t < 16 ∧ 0 ≤ a.k ∧ a.k ≤ 3 := by
  unfold mayA
  rw [Bool.and_eq_true, Bool.and_eq_true, Bool.and_eq_true, decide_eq_true_iff, decide_eq_true_iff, decide_eq_true_iff, decide_eq_true_iff]
  exact ⟨fun ⟨⟨⟨h1, h2⟩, h3⟩, h4⟩ => ⟨h1, h2, h3, h4⟩, fun ⟨h1, h2, h3, h4⟩ => ⟨⟨⟨h1, h2⟩, h3⟩, h4⟩⟩
structure CS where
  th : List (List Int)
  sg : List (Int × List Int)
  cs : List (List Int)
def CS.c0 (s : CS) (a : TA) : List Int := s.th.getD a.t.toNat []
def CS.g (s : CS) (loc : Int) : List Int := (alook loc s.sg).getD []
def CS.c1 (s : CS) (a : TA) : List Int := if a.k = 2 then joinL (s.c0 a) (s.g a.loc) else s.c0 a
def CS.c (s : CS) (a : TA) : List Int := tickL (s.c1 a) a.t
def CS.step (s : CS) (a : TA) : CS := ⟨s.th.set a.t.toNat (s.c a), if a.k = 3 then aset a.loc (joinL (s.g a.loc) (s.c a)) s.sg else s.sg, s.cs ++ [s.c a]⟩
def runC (l : List TA) : CS := l.foldl CS.step ⟨List.replicate 16 [], [], []⟩
theorem runC_snoc (l : List TA) (a : TA) : runC (l ++ [a]) = (runC l).step a := by unfold runC; rw [List.foldl_append]; rfl
structure CInv (l : List TA) (s : CS) (th sg : Int → Int → Int) : Prop where
  inv : InvC l th sg (s.cs.map clAt)
  ht : ∀ t : Int, 0 ≤ t → t < 16 → ∀ x, clAt (s.th.getD t.toNat []) x = th t x
  hs : ∀ loc x, clAt (s.g loc) x = sg loc x
  nt : ∀ t x, 0 ≤ th t x
  ns : ∀ t x, 0 ≤ sg t x
  n16 : s.th.length = 16
  lt : ∀ i : Nat, (s.th.getD i []).length ≤ 16
  ls : ∀ loc, (s.g loc).length ≤ 16
theorem CInv.nil : CInv [] ⟨List.replicate 16 [], [], []⟩ (fun _ _ => 0) (fun _ _ => 0) := by
  have e : ∀ i : Nat, (List.replicate 16 ([] : List Int)).getD i [] = [] := fun i => by
    rw [List.getD_eq_getElem?_getD, List.getElem?_replicate]
    split <;> rfl
  have e2 : ∀ x, clAt [] x = 0 := fun x => by unfold clAt; split <;> rfl
  exact ⟨InvC.nil, fun t _ _ x => by rw [e]; exact e2 x, fun loc x => e2 x, fun _ _ => Int.le_refl _, fun _ _ => Int.le_refl _, rfl, fun i => by rw [e]; decide, fun loc => by show ([] : List Int).length ≤ 16; decide⟩
theorem cnt_len (l : List TA) (t : Int) : cntL l t ≤ l.length := by
  unfold cntL
  have := List.length_filter_le (fun a : TA => decide (a.t = t)) l
  omega
theorem mx_nn {a b : Int} (ha : 0 ≤ a) (hb : 0 ≤ b) : 0 ≤ mx a b := by unfold mx; split <;> omega
theorem CInv.c1 {l : List TA} {s : CS} {th sg : Int → Int → Int} (h : CInv l s th sg) {a : TA} (ha : mayA a = true) (x : Int) : clAt (s.c1 a) x = if a.k = 2 then mx (th a.t x) (sg a.loc x) else th a.t x := by
  obtain ⟨h1, h2, _, _⟩ := (mayA_iff a).1 ha
  unfold CS.c1
  split
  · rw [joinL_at, h.hs]
    unfold CS.c0
    rw [h.ht a.t h1 h2]
  · exact h.ht a.t h1 h2 x
theorem CInv.c1_len {l : List TA} {s : CS} {th sg : Int → Int → Int} (h : CInv l s th sg) (a : TA) : (s.c1 a).length ≤ 16 := by
  have h1 := h.lt a.t.toNat
  have h2 := h.ls a.loc
  unfold CS.c1
  split
  · rw [joinL_len]; unfold CS.c0; omega
  · exact h1
theorem CInv.c_len {l : List TA} {s : CS} {th sg : Int → Int → Int} (h : CInv l s th sg) {a : TA} (ha : mayA a = true) : (s.c a).length ≤ 16 := by
  obtain ⟨h1, h2, _, _⟩ := (mayA_iff a).1 ha
  have := h.c1_len a
  unfold CS.c
  rw [tickL_len _ h1 h2]; omega
theorem CInv.c {l : List TA} {s : CS} {th sg : Int → Int → Int} (h : CInv l s th sg) {a : TA} (ha : mayA a = true) (hl : l.length ≤ 1000) (x : Int) : clAt (s.c a) x = knowC th sg a x := by
  obtain ⟨h1, h2, _, _⟩ := (mayA_iff a).1 ha
  have hb : 0 ≤ clAt (s.c1 a) a.t ∧ clAt (s.c1 a) a.t ≤ 1000 := by
    have b1 := h.inv.bt a.t a.t
    have b2 := h.inv.bs a.loc a.t
    have b3 := cnt_len l a.t
    have b4 := h.nt a.t a.t
    have b5 := h.ns a.loc a.t
    rw [h.c1 ha]
    split
    · unfold mx; split <;> omega
    · omega
  unfold CS.c
  rw [tickL_at h1 h2 x (by omega), h.c1 ha]
  rfl
theorem CInv.snoc {l : List TA} {s : CS} {th sg : Int → Int → Int} (h : CInv l s th sg) {a : TA} (ha : mayA a = true) (hl : l.length ≤ 1000) : CInv (l ++ [a]) (s.step a) (thS th sg a) (sgS th sg a) := by
  obtain ⟨h1, h2, _, _⟩ := (mayA_iff a).1 ha
  have hc := h.c ha hl
  have hcl := h.c_len ha
  have hcf : clAt (s.c a) = knowC th sg a := funext hc
  have hg : ∀ loc, (s.step a).g loc = if a.k = 3 ∧ loc = a.loc then joinL (s.g a.loc) (s.c a) else s.g loc := fun loc => by
    unfold CS.g CS.step
    simp only
    by_cases h3 : a.k = 3
    · rw [if_pos h3, alook_aset]
      by_cases h4 : loc = a.loc
      · rw [if_pos h4, if_pos ⟨h3, h4⟩]; rfl
      · rw [if_neg h4, if_neg fun e => h4 e.2]
    · rw [if_neg h3, if_neg fun e => h3 e.1]
  have hth : ∀ i : Nat, (s.step a).th.getD i [] = if a.t.toNat = i then s.c a else s.th.getD i [] := fun i => by
    show (s.th.set a.t.toNat (s.c a)).getD i [] = _
    rw [List.getD_eq_getElem?_getD, List.getElem?_set]
    by_cases h3 : a.t.toNat = i
    · have := h.n16
      rw [if_pos h3, if_pos h3, if_pos (by omega)]; rfl
    · rw [if_neg h3, if_neg h3, List.getD_eq_getElem?_getD]
  have hk : ∀ x, 0 ≤ knowC th sg a x := fun x => by
    unfold knowC
    have b4 := h.nt a.t x
    have b5 := mx_nn b4 (h.ns a.loc x)
    split <;> split <;> omega
  refine ⟨?_, fun t t0 t1 x => ?_, fun loc x => ?_, fun t x => ?_, fun t x => ?_, ?_, fun i => ?_, fun loc => ?_⟩
  · show InvC _ _ _ ((s.cs ++ [s.c a]).map clAt)
    rw [List.map_append, List.map_singleton, hcf]
    exact h.inv.snoc a
  · rw [hth]
    unfold thS
    by_cases e : t = a.t
    · rw [if_pos (by rw [e]), if_pos e]; exact hc x
    · rw [if_neg (by omega), if_neg e]; exact h.ht t t0 t1 x
  · rw [hg]
    unfold sgS
    split
    · next q => rw [joinL_at, h.hs, hc, q.2]
    · exact h.hs loc x
  · unfold thS
    split
    · exact hk x
    · exact h.nt t x
  · unfold sgS
    split
    · exact mx_nn (h.ns _ _) (hk x)
    · exact h.ns t x
  · show (s.th.set _ _).length = 16
    rw [List.length_set]; exact h.n16
  · rw [hth]
    split
    · exact hcl
    · exact h.lt i
  · rw [hg]
    split
    · rw [joinL_len]
      have := h.ls a.loc
      omega
    · exact h.ls loc
theorem take_snocA {l : List TA} {i : Nat} {a : TA} (h : l[i]? = some a) : l.take (i + 1) = l.take i ++ [a] := by rw [List.take_add_one, h]; rfl
theorem cinvT {l : List TA} (hl : l.length ≤ 1000) : ∀ n : Nat, n ≤ l.length → (∀ a, a ∈ l.take n → mayA a = true) → ∃ th sg, CInv (l.take n) (runC (l.take n)) th sg
  | 0, _, _ => ⟨_, _, CInv.nil⟩
  | n + 1, hn, hm => by
    have hx : l[n]? = some l[n] := List.getElem?_eq_getElem (by omega)
    have e := take_snocA hx
    rw [e] at hm ⊢
    obtain ⟨th, sg, h⟩ := cinvT hl n (by omega) fun a ha => hm a (List.mem_append_left _ ha)
    rw [runC_snoc]
    exact ⟨_, _, h.snoc (hm _ (List.mem_append_right _ (List.mem_singleton.2 rfl))) (by rw [List.length_take]; omega)⟩
theorem cinv {l : List TA} (hl : l.length ≤ 1000) (hm : ∀ a, a ∈ l → mayA a = true) : ∃ th sg, CInv l (runC l) th sg := by
  have := cinvT hl l.length (Nat.le_refl _) (by rw [List.take_length]; exact hm)
  rw [List.take_length] at this
  exact this
theorem runC_len (l : List TA) : (runC l).cs.length = l.length := by
  have : ∀ (l : List TA) (s : CS), (l.foldl CS.step s).cs.length = s.cs.length + l.length := fun l => by
    induction l with
    | nil => intro s; rfl
    | cons a l ih =>
      intro s
      rw [List.foldl_cons, ih]
      show (s.cs ++ [_]).length + _ = _
      rw [List.length_append, List.length_cons, List.length_cons, List.length_nil]; omega
  rw [runC, this]; simp
/-! ### What is ahead, by the clocks -/
def AC0 : TA := ⟨0, 0, 0⟩
def aheadB (l : List TA) (i k : Nat) : Bool := decide (i < k) && decide (clAt ((runC l).cs.getD i []) (l.getD i AC0).t ≤ clAt ((runC l).cs.getD k []) (l.getD i AC0).t)
theorem aheadB_iff {l : List TA} (hl : l.length ≤ 1000) (hm : ∀ a, a ∈ l → mayA a = true) {i k : Nat} (hi : i < l.length) (hk : k < l.length) : aheadB l i k = true ↔ HB l i k := by
  obtain ⟨th, sg, h⟩ := cinv hl hm
  have n := runC_len l
  have e : ∀ j : Nat, j < l.length → ((runC l).cs.map clAt)[j]? = some (clAt ((runC l).cs.getD j [])) := fun j hj => by
    rw [List.getElem?_map, List.getElem?_eq_getElem (by omega), List.getD_eq_getElem?_getD, List.getElem?_eq_getElem (by omega)]; rfl
  have e2 : l[i]? = some (l.getD i AC0) := by rw [List.getD_eq_getElem?_getD, List.getElem?_eq_getElem hi]; rfl
  rw [h.inv.ahead e2 (e i hi) (e k hk), aheadB, Bool.and_eq_true, decide_eq_true_iff, decide_eq_true_iff]
end Go.Proofs.E
end
section
open Go Go.Gv
attribute [local irreducible] Go.Gv.WJ Go.Gv.OpJ Go.Gv.QJ Go.Gv.Spl Go.Gv.Req Go.Gv.IdxP Go.Gv.RegP Go.Gv.FinP Go.Gv.CellP Go.Gv.CellsP Go.Gv.ArrP Go.Gv.ArrsP Go.Gv.DropP Go.Gv.ByteP Go.Gv.StoreP
set_option maxRecDepth 100000
namespace Go.Proofs.E
def accA (a : TA) : Bool := decide (a.k = 0) || decide (a.k = 1)
def wrA (a : TA) : Bool := decide (a.k = 1)
def clashA (a b : TA) : Bool := accA a && accA b && decide (a.loc = b.loc) && (wrA a || wrA b)
def raceB (l : List TA) (i k : Nat) : Bool := clashA (l.getD i AC0) (l.getD k AC0) && !aheadB l i k
def firstJ (l : List TA) (k : Nat) : Nat → Option Nat
  | 0 => none
  | m + 1 => match firstJ l k m with
    | some i => some i
    | none => if raceB l m k = true then some m else none
def firstTo (l : List TA) : Nat → Option (Nat × Nat)
  | 0 => none
  | n + 1 => match firstTo l n with
    | some p => some p
    | none => match firstJ l n n with
      | some i => some (i, n)
      | none => none
theorem firstI_none (l : List TA) (k : Nat) : ∀ m, firstJ l k m = none ↔ ∀ i, i < m → raceB l i k = false
  | 0 => ⟨fun _ i h => absurd h (Nat.not_lt_zero i), fun _ => rfl⟩
  | m + 1 => by
    have ih := firstI_none l k m
    unfold firstJ
    constructor
    · intro h i hi
      split at h
      · cases h
      · next h0 =>
        by_cases e : i = m
        · subst e
          split at h
          · cases h
          · next h1 => simpa using h1
        · exact ih.1 h0 i (by omega)
    · intro h
      rw [ih.2 fun i hi => h i (by omega)]
      simp only
      rw [h m (by omega)]; rfl
theorem firstI_some {l : List TA} {k j : Nat} (h : ∀ i, i < j → raceB l i k = false) (hj : raceB l j k = true) : ∀ m, j < m → firstJ l k m = some j
  | m + 1, hm => by
    unfold firstJ
    by_cases e : j < m
    · rw [firstI_some h hj m e]
    · have e : j = m := by omega
      subst e
      rw [(firstI_none l k j).2 h]
      simp only
      rw [if_pos hj]
theorem firstTo_none (l : List TA) : ∀ n, firstTo l n = none ↔ ∀ k, k < n → ∀ i, i < k → raceB l i k = false
  | 0 => ⟨fun _ i h => absurd h (Nat.not_lt_zero i), fun _ => rfl⟩
  | n + 1 => by
    have ih := firstTo_none l n
    unfold firstTo
    constructor
    · intro h k hk
      split at h
      · cases h
      · next h0 =>
        by_cases e : k = n
        · subst e
          split at h
          · cases h
          · next h1 => exact (firstI_none l k k).1 h1
        · exact ih.1 h0 k (by omega)
    · intro h
      rw [ih.2 fun i hi => h i (by omega)]
      simp only
      rw [(firstI_none l n n).2 (h n (by omega))]
theorem firstTo_some {l : List TA} {i k : Nat} (h : firstTo l k = none) (hi : firstJ l k k = some i) : ∀ n, k < n → firstTo l n = some (i, k)
  | n + 1, hn => by
    unfold firstTo
    by_cases e : k < n
    · rw [firstTo_some h hi n e]
    · have e : k = n := by omega
      subst e
      rw [h]
      simp only
      rw [hi]
/-- No two acts race. -/
def RF (l : List TA) : Prop := ∀ (i k : Nat) (a b : TA), i < k → l[i]? = some a → l[k]? = some b → clashA a b = true → HB l i k
theorem getA {l : List TA} {i : Nat} (h : i < l.length) : l[i]? = some (l.getD i AC0) := by rw [List.getD_eq_getElem?_getD, List.getElem?_eq_getElem h]; rfl
theorem getA_of {l : List TA} {i : Nat} {a : TA} (h : l[i]? = some a) : l.getD i AC0 = a := by rw [List.getD_eq_getElem?_getD, h]; rfl
theorem rf_iff {l : List TA} (hl : l.length ≤ 1000) (hm : ∀ a, a ∈ l → mayA a = true) : firstTo l l.length = none ↔ RF l := by
  rw [firstTo_none]
  constructor
  · intro h i k a b hik ha hb hc
    have hk := get_lt hb
    have := h k hk i hik
    unfold raceB at this
    rw [getA_of ha, getA_of hb, hc, Bool.true_and] at this
    exact (aheadB_iff hl hm (get_lt ha) hk).1 (by simpa using this)
  · intro h k hk i hi
    unfold raceB
    by_cases hc : clashA (l.getD i AC0) (l.getD k AC0) = true
    · rw [(aheadB_iff hl hm (by omega) hk).2 (h i k _ _ hi (getA (by omega)) (getA hk) hc)]
      simp
    · rw [Bool.not_eq_true] at hc
      rw [hc]; rfl
def allMay (l : List TA) : Bool := l.all mayA
theorem allMay_iff (l : List TA) : allMay l = true ↔ ∀ a, a ∈ l → mayA a = true := List.all_eq_true
def firstV (l : List TA) : AV := if allMay l = true then (match firstTo l l.length with
  | none => .tup [iv (-1), iv (-1), iv 0]
  | some (i, k) => .tup [iv (i : Nat), iv (k : Nat), iv 13]) else .tup [iv (-1), iv (-1), iv 1]
def firstE (l : List TA) : Int := if allMay l = true then (match firstTo l l.length with
  | none => 0
  | some _ => 13) else 1
/-! ### The law of orders -/
def KN (l : List TA) (t : Int) (φ : TA → Bool) : Prop := ∀ (j : Nat) (a : TA), l[j]? = some a → φ a = true → ∃ (d : Nat) (b : TA), l[d]? = some b ∧ b.t = t ∧ (j = d ∨ HB l j d)
def KS (l : List TA) (loc : Int) (φ : TA → Bool) : Prop := ∀ (j : Nat) (a : TA), l[j]? = some a → φ a = true → ∃ (d : Nat) (b : TA), l[d]? = some b ∧ (b.k = 3 ∧ b.loc = loc) ∧ (j = d ∨ HB l j d)
theorem KN.none {l : List TA} {t : Int} {φ : TA → Bool} (h : ∀ a, a ∈ l → φ a = false) : KN l t φ := fun j a ha hφ => by rw [h a (List.mem_of_getElem? ha)] at hφ; cases hφ
theorem KS.none {l : List TA} {t : Int} {φ : TA → Bool} (h : ∀ a, a ∈ l → φ a = false) : KS l t φ := fun j a ha hφ => by rw [h a (List.mem_of_getElem? ha)] at hφ; cases hφ
theorem KN.snoc {l : List TA} {t : Int} {φ : TA → Bool} (h : KN l t φ) (a : TA) (h2 : φ a = true → a.t = t) : KN (l ++ [a]) t φ := fun j b hb hφ => by
  rcases snoc_cases hb with ⟨_, hb⟩ | ⟨rfl, rfl⟩
  · obtain ⟨d, c, h3, h4, h5⟩ := h j b hb hφ
    exact ⟨d, c, snoc_old h3, h4, h5.imp_right fun x => x.app _⟩
  · exact ⟨l.length, b, snoc_get l b, h2 hφ, .inl rfl⟩
theorem KS.snoc {l : List TA} {t : Int} {φ : TA → Bool} (h : KS l t φ) (a : TA) (h2 : φ a = false) : KS (l ++ [a]) t φ := fun j b hb hφ => by
  rcases snoc_cases hb with ⟨_, hb⟩ | ⟨rfl, rfl⟩
  · obtain ⟨d, c, h3, h4, h5⟩ := h j b hb hφ
    exact ⟨d, c, snoc_old h3, h4, h5.imp_right fun x => x.app _⟩
  · rw [h2] at hφ; cases hφ
theorem KN.last {l : List TA} {φ : TA → Bool} {a : TA} (h : KN l a.t φ) {j : Nat} {b : TA} (hb : l[j]? = some b) (hφ : φ b = true) : HB (l ++ [a]) j l.length := by
  obtain ⟨d, c, h3, h4, h5⟩ := h j b hb hφ
  exact HB.last.2 ⟨d, c, h3, .inl h4, h5⟩
theorem KS.acq {l : List TA} {φ : TA → Bool} {a : TA} (h : KS l a.loc φ) (hk : a.k = 2) : KN (l ++ [a]) a.t φ := fun j b hb hφ => by
  refine ⟨l.length, a, snoc_get l a, rfl, ?_⟩
  rcases snoc_cases hb with ⟨_, hb⟩ | ⟨rfl, rfl⟩
  · obtain ⟨d, c, h3, h4, h5⟩ := h j b hb hφ
    exact .inr (HB.last.2 ⟨d, c, h3, .inr ⟨h4.1, hk, h4.2⟩, h5⟩)
  · exact .inl rfl
theorem KN.rel {l : List TA} {φ : TA → Bool} {a : TA} (h : KN l a.t φ) (hk : a.k = 3) : KS (l ++ [a]) a.loc φ := fun j b hb hφ => by
  refine ⟨l.length, a, snoc_get l a, ⟨hk, rfl⟩, ?_⟩
  rcases snoc_cases hb with ⟨_, hb⟩ | ⟨rfl, rfl⟩
  · exact .inr (h.last hb hφ)
  · exact .inl rfl
theorem RF.nil : RF [] := fun i k a b _ h => by simp at h
theorem RF.snoc {l : List TA} (h : RF l) (a : TA) (hc : ∀ (i : Nat) (b : TA), l[i]? = some b → clashA b a = true → HB (l ++ [a]) i l.length) : RF (l ++ [a]) := fun i k b c hik hb hc' hcl => by
  rcases snoc_cases hc' with ⟨hk, h1⟩ | ⟨rfl, rfl⟩
  · rw [List.getElem?_append_left (by omega)] at hb
    exact (h i k b c hik hb h1 hcl).app _
  · rw [List.getElem?_append_left hik] at hb
    exact hc i b hb hcl
theorem RF.no {l : List TA} (h : RF l) {a : TA} (ha : accA a = false) : RF (l ++ [a]) := h.snoc a fun i b _ hc => by
  unfold clashA at hc
  rw [ha] at hc; simp at hc
theorem RF.acc {l : List TA} (h : RF l) {a : TA} {φ : TA → Bool} (hk : KN l a.t φ) (hφ : ∀ b, clashA b a = true → φ b = true) : RF (l ++ [a]) := h.snoc a fun i b hb hc => hk.last hb (hφ b hc)
end Go.Proofs.E
end
section
open Go Go.Gv
attribute [local irreducible] Go.Gv.WJ Go.Gv.OpJ Go.Gv.QJ Go.Gv.Spl Go.Gv.Req Go.Gv.IdxP Go.Gv.RegP Go.Gv.FinP Go.Gv.CellP Go.Gv.CellsP Go.Gv.ArrP Go.Gv.ArrsP Go.Gv.DropP Go.Gv.ByteP Go.Gv.StoreP
set_option maxRecDepth 100000
namespace Go.Proofs.E
abbrev taD (a : TA) : List D := [.v (.int .i64 a.t), .v (.int .i64 a.k), .v (.int .i64 a.loc)]
abbrev acv (a : TA) : AV := .agg [iv a.t, iv a.k, iv a.loc]
abbrev clD (c : List Int) : List D := [.sl 1 (c.map di)]
theorem get_acD {l : List TA} {i : Nat} (h : i < l.length) : (l.map taD)[i]? = some (taD (l.getD i AC0)) := by rw [List.getElem?_map, getA h]; rfl
theorem May14_c (a : TA) : Cv 128 [acv a] (bv (mayA a)) := by
  refine Ct.of_vc Tryz.f128 Tryz.func128 rfl rfl fun w H B g0 => ?_
  refine Spl.of (fun h1 => ?_) (fun h1 => ?_)
  · (repeat (first | refine Spl.t rfl ?_ | refine Spl.f rfl ?_))
    refine Spl.of (fun h2 => ?_) (fun h2 => ?_)
    · (repeat (first | refine Spl.t rfl ?_ | refine Spl.f rfl ?_))
      refine Spl.of (fun h3 => ?_) (fun h3 => ?_)
      · (repeat (first | refine Spl.t rfl ?_ | refine Spl.f rfl ?_))
        exact FinP.open rfl (congrArg bv (by unfold mayA; rw [h1, h2, h3]; rfl))
      · (repeat (first | refine Spl.t rfl ?_ | refine Spl.f rfl ?_))
        exact FinP.open rfl (congrArg bv (by unfold mayA; rw [h1, h2, h3]; rfl))
    · (repeat (first | refine Spl.t rfl ?_ | refine Spl.f rfl ?_))
      exact FinP.open rfl (congrArg bv (by unfold mayA; rw [h1, h2]; rfl))
  · (repeat (first | refine Spl.t rfl ?_ | refine Spl.f rfl ?_))
    exact FinP.open rfl (congrArg bv (by unfold mayA; rw [h1]; rfl))
theorem access_c (a : TA) : Cv 63 [acv a] (bv (accA a)) := by
  refine Ct.of_vc Tryz.f63 Tryz.func63 rfl rfl fun w H B g0 => ?_
  refine Spl.of (fun h1 => ?_) (fun h1 => ?_)
  · (repeat (first | refine Spl.t rfl ?_ | refine Spl.f rfl ?_))
    exact FinP.open rfl (congrArg bv (by unfold accA; rw [h1]; rfl))
  · (repeat (first | refine Spl.t rfl ?_ | refine Spl.f rfl ?_))
    exact FinP.open rfl (congrArg bv (by unfold accA; rw [h1]; rfl))
theorem all_no {l : List TA} {i : Nat} {a : TA} (h : l[i]? = some a) (hm : mayA a = false) : allMay l = false := by
  unfold allMay
  rw [List.all_eq_false]
  exact ⟨a, List.mem_of_getElem? h, by rw [hm]; simp⟩
theorem ahead14_c (l : List TA) (cs : List (List Int)) (i k : Nat) (hi : i < l.length) (hl : l.length ≤ 1000000) (hk : k < l.length) (hn : cs.length = l.length) :
    Cv 64 [.d (.sl 3 (l.map taD)), .d (.sl 1 (cs.map clD)), iv i, iv k] (bv (decide (i < k) && decide (clAt (cs.getD i []) (l.getD i AC0).t ≤ clAt (cs.getD k []) (l.getD i AC0).t))) := by
  have hx := get_acD hi
  have hc : ∀ j, j < cs.length → (cs.map clD)[j]? = some (clD (cs.getD j [])) := fun j hj => by
    rw [List.getElem?_map, List.getElem?_eq_getElem hj, List.getD_eq_getElem?_getD, List.getElem?_eq_getElem hj]; rfl
  have hci := hc i (by omega)
  have hck := hc k (by omega)
  generalize cs.getD i [] = c at hci ⊢
  generalize cs.getD k [] = d at hck ⊢
  generalize l.getD i AC0 = a at hx ⊢
  have h1 := At13_c c a.t
  have h2 := At13_c d a.t
  have he : decide (i < k) = decide ((i : Int) < (k : Int)) := decide_eq_decide.2 (by omega)
  rw [he]
  refine Ct.of_vc Tryz.f64 Tryz.func64 rfl rfl fun w H B g0 => ?_
  refine IdxP.of (taD a) (by omega) (by rw [Int.toNat_natCast]; exact hx) ?_
  (repeat (first | refine Spl.t rfl ?_ | refine Spl.f rfl ?_))
  refine RegP.of rfl (by decide +kernel) ?_
  refine Spl.of (fun h => ?_) (fun h => ?_)
  · (repeat (first | refine Spl.t rfl ?_ | refine Spl.f rfl ?_))
    refine IdxP.of (clD c) (by omega) (by rw [Int.toNat_natCast]; exact hci) ?_
    (repeat (first | refine Spl.t rfl ?_ | refine Spl.f rfl ?_))
    refine QuietP.of (QJ.call h1 (fun _ _ => rfl) rfl rfl) ?_
    (repeat (first | refine Spl.t rfl ?_ | refine Spl.f rfl ?_))
    refine IdxP.of (clD d) (by omega) (by rw [Int.toNat_natCast]; exact hck) ?_
    (repeat (first | refine Spl.t rfl ?_ | refine Spl.f rfl ?_))
    refine QuietP.of (QJ.call h2 (fun _ _ => rfl) rfl rfl) ?_
    (repeat (first | refine Spl.t rfl ?_ | refine Spl.f rfl ?_))
    exact FinP.open rfl (congrArg bv (by rw [h]; rfl))
  · (repeat (first | refine Spl.t rfl ?_ | refine Spl.f rfl ?_))
    exact FinP.open rfl (congrArg bv (by rw [h]; rfl))
end Go.Proofs.E
end
section
open Go Go.Gv
attribute [local irreducible] Go.Gv.WJ Go.Gv.OpJ Go.Gv.QJ Go.Gv.Spl Go.Gv.Req Go.Gv.IdxP Go.Gv.RegP Go.Gv.FinP Go.Gv.CellP Go.Gv.CellsP Go.Gv.ArrP Go.Gv.ArrsP Go.Gv.DropP Go.Gv.ByteP Go.Gv.StoreP
set_option maxRecDepth 100000
namespace Go.Proofs.E
def leqL (c d : List Int) : Bool := (List.range c.length).all fun i => decide (c.getD i 0 ≤ clAt d i)
theorem Leq13_c (c d : List Int) (hc : c.length ≤ 1000000) : Cv 165 [clv c, clv d] (bv (leqL c d)) := by
  refine Ct.of_vc Tryz.f165 Tryz.func165 rfl rfl fun w H B g0 => ?_
  refine WJ.loopK (V := Nat) (fun k => [(8, iv k)]) (fun _ => []) [] (fun k => c.length - k) (fun k => k ≤ c.length ∧ ∀ j, j < k → c.getD j 0 ≤ clAt d j) 0 ⟨Nat.zero_le _, fun _ h => by omega⟩ (by repeat' (first | exact trivial | exact rfl | refine And.intro ?_ ?_)) (by repeat' (first | exact trivial | exact rfl | refine And.intro ?_ ?_)) ?_
  rintro k ⟨hk, hall⟩
  refine Spl.of (fun h => ?_) (fun h => ?_)
  · have hlt : k < c.length := by have := of_decide_eq_true h; simp at this; omega
    have hg := get_di hlt
    (repeat (first | refine Spl.t rfl ?_ | refine Spl.f rfl ?_))
    refine RegP.of rfl (by decide +kernel) ?_
    refine IdxP.of (di (c.getD k 0)) (by omega) (by rw [Int.toNat_natCast]; exact hg) ?_
    refine QuietP.of (QJ.call (At13_c d k) (fun _ _ => rfl) rfl rfl) ?_
    (repeat (first | refine Spl.t rfl ?_ | refine Spl.f rfl ?_))
    refine Spl.of (fun h1 => ?_) (fun h1 => ?_)
    · (repeat (first | refine Spl.t rfl ?_ | refine Spl.f rfl ?_))
      have h2 : clAt d k < c.getD k 0 := of_decide_eq_true h1
      refine FinP.open rfl (congrArg bv ?_)
      symm
      unfold leqL
      rw [List.all_eq_false]
      exact ⟨k, List.mem_range.2 hlt, by simp only [decide_eq_true_eq]; omega⟩
    · (repeat (first | refine Spl.t rfl ?_ | refine Spl.f rfl ?_))
      have h2 : ¬ clAt d k < c.getD k 0 := of_decide_eq_false h1
      refine ⟨k + 1, ⟨by omega, fun j hj => ?_⟩, by omega, ⟨some_iv (wrap_id _ (by omega) (by omega)), trivial⟩, (by repeat' (first | exact trivial | exact rfl | refine And.intro ?_ ?_)), (by repeat' (first | exact trivial | exact rfl | refine And.intro ?_ ?_)), (by repeat' (first | exact trivial | exact rfl | refine And.intro ?_ ?_))⟩
      by_cases e : j = k
      · subst e; omega
      · exact hall j (by omega)
  · have h := of_decide_eq_false h
    simp at h
    (repeat (first | refine Spl.t rfl ?_ | refine Spl.f rfl ?_))
    refine FinP.open rfl (congrArg bv ?_)
    symm
    unfold leqL
    rw [List.all_eq_true]
    exact fun j hj => decide_eq_true (hall j (by have := List.mem_range.1 hj; omega))
theorem Same13_c (c d : List Int) (hc : c.length ≤ 1000000) (hd : d.length ≤ 1000000) : Cv 164 [clv c, clv d] (bv (leqL c d && leqL d c)) := by
  have h1 := Leq13_c c d hc
  have h2 := Leq13_c d c hd
  refine Ct.of_vc Tryz.f164 Tryz.func164 rfl rfl fun w H B g0 => ?_
  refine OpJ.callV h1 (fun _ _ => rfl) rfl rfl rfl ?_
  (repeat (first | refine Spl.t rfl ?_ | refine Spl.f rfl ?_))
  refine Spl.of (fun h => ?_) (fun h => ?_)
  · (repeat (first | refine Spl.t rfl ?_ | refine Spl.f rfl ?_))
    refine OpJ.callV h2 (fun _ _ => rfl) rfl rfl rfl ?_
    (repeat (first | refine Spl.t rfl ?_ | refine Spl.f rfl ?_))
    exact FinP.open rfl (congrArg bv (by rw [h]; rfl))
  · (repeat (first | refine Spl.t rfl ?_ | refine Spl.f rfl ?_))
    exact FinP.open rfl (congrArg bv (by rw [h]; rfl))
theorem aw13_j : joinL [1, 0, 2] [0, 3] = [1, 3, 2] := by decide
theorem aw13_s : (leqL [1, 3, 2] [1, 3, 2] && leqL [1, 3, 2] [1, 3, 2]) = true := by decide
theorem aw13_l : leqL [1] [0, 9] = false := by decide
theorem Awake13_c : Cv 125 [] (bv true) := by
  have hj := Join13_c [1, 0, 2] [0, 3] (by decide) (by decide)
  rw [aw13_j] at hj
  have hs := Same13_c [1, 3, 2] [1, 3, 2] (by decide) (by decide)
  rw [aw13_s] at hs
  have hl := Leq13_c [1] [0, 9] (by decide)
  rw [aw13_l] at hl
  refine Ct.of_vc Tryz.f125 Tryz.func125 rfl rfl fun w H B g0 => ?_
  refine OpJ.shift (SJ.fullD 1 rfl) ?_
  refine OpJ.shift (SJ.fullD 2 rfl) ?_
  refine OpJ.callV hj (fun _ _ => rfl) rfl rfl rfl ?_
  (repeat (first | refine Spl.t rfl ?_ | refine Spl.f rfl ?_))
  refine OpJ.shift (SJ.fullD 4 rfl) ?_
  refine OpJ.callV hs (fun _ _ => rfl) rfl rfl rfl ?_
  (repeat (first | refine Spl.t rfl ?_ | refine Spl.f rfl ?_))
  refine OpJ.shift (SJ.fullD 7 rfl) ?_
  refine OpJ.shift (SJ.fullD 8 rfl) ?_
  refine OpJ.callV hl (fun _ _ => rfl) rfl rfl rfl ?_
  (repeat (first | refine Spl.t rfl ?_ | refine Spl.f rfl ?_))
  exact FinP.open rfl rfl
end Go.Proofs.E
end
section
namespace Go.Gv
open Go.RowKit
structure RW where
  b : Nat
  c : Nat
  xs : List (List D)
/-- The slice of a row. -/
abbrev RW.sl (r : RW) : Value := .slice (some ⟨r.b, 0, none⟩) r.xs.length r.c
/-- A row's cells lie at its place. -/
def RW.ok (k : Nat) (r : RW) (H : HF) (w : World) : Prop :=
  0 < r.c ∧ r.xs.length ≤ r.c ∧ (∀ cs, cs ∈ r.xs → cs.length = k) ∧ ∃ (t : TypeId) (us : List Value), w.heap[r.b]? = some (.cells us.toArray t (0, 0)) ∧ us.length = r.c * k ∧
    ∀ (j l : Nat) (cs : List D) (a : D) (u : Value), r.xs[j]? = some cs → cs[l]? = some a → us[j * k + l]? = some u → RepD H a u
def rowsOk (k : Nat) (s : List RW) (O : Nat → Prop) (H : HF) (w : World) : Prop :=
  (∀ b, O b ↔ ∃ r, r ∈ s ∧ r.b = b) ∧ s.Pairwise (fun r r' => r.b ≠ r'.b) ∧ ∀ r, r ∈ s → r.ok k H w
def rowsR (P : Program) (Λ : Amb) (k : Nat) : Res where
  S := List RW
  P := P
  Λ := Λ
  fv := undef
  ok := rowsOk k
  lt := fun h b hb => by
    obtain ⟨r, hj, rfl⟩ := (h.1 b).1 hb
    obtain ⟨_, _, _, t, us, h1, _⟩ := h.2.2 r hj
    exact lt_of_heap h1
  later := fun h hle _ hw => ⟨h.1, h.2.1, fun r hj => by
    obtain ⟨a1, a2, a3, t, us, h1, h2, h3⟩ := h.2.2 r hj
    exact ⟨a1, a2, a3, t, us, by rw [hw r.b ((h.1 _).2 ⟨r, hj, rfl⟩)]; exact h1, h2, fun j l cs a u x y z => (h3 j l cs a u x y z).mono hle⟩⟩
  pre := fun _ _ => False
  step := fun _ _ _ _ => False
  run := fun hp => hp.elim
theorem mem_rows0 {P : Program} {Λ : Amb} {k : Nat} {w : World} {H : HF} (hok : HOk H w) (γ : Ids) (i : Nat) : Mem w H (fun _ => False) (upd γ i ⟨w.heap.size, 0, fun _ => False⟩) H [(i, .res (rowsR P Λ k) [])] w := by
  have one : ∀ j f, look j ([(i, Ent.res (rowsR P Λ k) [])] : Sg) = some f → j = i ∧ f = .res (rowsR P Λ k) [] := fun j f hj => by
    rw [look_cons] at hj
    split at hj
    · next e' => exact ⟨e', by simpa using hj.symm⟩
    · simp [look] at hj
  refine ⟨Keeps.refl _ _, HLe.refl _, HNew.refl _ _ _, hok, fun j f hj => ?_, fun j f hj b hb => ?_, fun j f hj b hb => ?_, fun j f l f' b hj hl hb hb' => ?_⟩
  · obtain ⟨rfl, rfl⟩ := one j f hj
    show rowsOk k [] (upd γ j _ j).o H w
    rw [upd_same]
    exact ⟨fun b => ⟨fun h => h.elim, fun ⟨r, h, _⟩ => by simp at h⟩, List.Pairwise.nil, fun r h => by simp at h⟩
  · obtain ⟨rfl, rfl⟩ := one j f hj
    have : (upd γ j ⟨w.heap.size, 0, fun _ => False⟩ j).o b := hb
    rw [upd_same] at this; exact this.elim
  · obtain ⟨rfl, rfl⟩ := one j f hj
    have : (upd γ j ⟨w.heap.size, 0, fun _ => False⟩ j).o b := hb
    rw [upd_same] at this; exact this.elim
  · obtain ⟨rfl, rfl⟩ := one j f hj
    have : (upd γ j ⟨w.heap.size, 0, fun _ => False⟩ j).o b := hb
    rw [upd_same] at this; exact this.elim
section rows
variable {X : Cx} {ty : TypeId} {pos : String} {aft : Array Edge} {g : Option (Nat × Bool)} {t : T} {σ : Sg} {K : T → Sg → Prop}
/-- No rows yet. -/
theorem SJ.newRows (i k : Nat) (hf : isFresh i t σ X.pin = true) : SJ X t σ t ((i, .res (rowsR X.P X.Λ k) []) :: σ) := fun γ H a w s => by
  have key := s.new (d := none) (V := .junk) (v := undef) (n := 0) (mem_rows0 (P := X.P) (Λ := X.Λ) (k := k) s.mem.hok γ i) hf rfl (.junk _)
  exact ⟨_, H, key⟩
/-- A row is taken out, as a private row of its own. -/
theorem SJ.rowOut (i id x : Nat) {k : Nat} {l1 l2 : List RW} {r : RW} (hi : look i σ = some (.res (rowsR X.P X.Λ k) (l1 ++ r :: l2))) (hx : look x t = some (.d (.v r.sl))) (hf : isFresh id t σ X.pin = true) (hfi : isFresh i t (rest [(i, .gone)] σ) X.pin = true) :
    SJ X t σ ((x, .arr id k r.xs.length) :: t) ((id, .arr k r.xs) :: (i, .res (rowsR X.P X.Λ k) (l1 ++ l2)) :: rest [(i, .gone)] σ) := fun γ H a w s => by
  have hok : rowsOk k (l1 ++ r :: l2) (γ i).o H w := s.mem.ent i _ hi
  obtain ⟨ho, hp, hr⟩ := hok
  have hne : i ≠ id := (fresh_s hf hi).1
  have hmem : ∀ q, q ∈ l1 ++ l2 → q ∈ l1 ++ r :: l2 := fun q hq => by
    rcases List.mem_append.1 hq with h | h
    · exact List.mem_append_left _ h
    · exact List.mem_append_right _ (List.mem_cons_of_mem _ h)
  have hsep : ∀ q, q ∈ l1 ++ l2 → q.b ≠ r.b := fun q hq => by
    rw [List.pairwise_append] at hp
    obtain ⟨_, p2, p3⟩ := hp
    rw [List.pairwise_cons] at p2
    rcases List.mem_append.1 hq with h | h
    · exact p3 q h r (by simp)
    · exact fun e => p2.1 q h e.symm
  have hpw : (l1 ++ l2).Pairwise (fun r r' => r.b ≠ r'.b) := by
    rw [List.pairwise_append] at hp ⊢
    obtain ⟨p1, p2, p3⟩ := hp
    rw [List.pairwise_cons] at p2
    exact ⟨p1, p2.2, fun a ha b hb => p3 a ha b (by simp [hb])⟩
  have hrm : r ∈ l1 ++ r :: l2 := by simp
  obtain ⟨c1, c2, c3, tt, us, c4, c5, c6⟩ := hr r hrm
  generalize hO : (fun b => ∃ q, q ∈ l1 ++ l2 ∧ q.b = b) = O'
  generalize hg : upd (upd γ i ⟨(γ i).b, (γ i).n, O'⟩) id ⟨r.b, r.c, fun _ => False⟩ = γ'
  have gid : γ' id = ⟨r.b, r.c, fun _ => False⟩ := by rw [← hg, upd_same]
  have gi : γ' i = ⟨(γ i).b, (γ i).n, O'⟩ := by rw [← hg, upd_other _ _ hne, upd_same]
  have go : ∀ j, j ≠ i → j ≠ id → γ j = γ' j := fun j h1 h2 => by rw [← hg, upd_other _ _ h2, upd_other _ _ h1]
  have two : ∀ j f, look j ([(id, Ent.arr k r.xs), (i, .res (rowsR X.P X.Λ k) (l1 ++ l2))] : Sg) = some f → (j = id ∧ f = .arr k r.xs) ∨ (j = i ∧ f = .res (rowsR X.P X.Λ k) (l1 ++ l2)) := fun j f hj => by
    rw [look_cons] at hj
    split at hj
    · next e => exact .inl ⟨e, by simpa using hj.symm⟩
    · rw [look_cons] at hj
      split at hj
      · next e => exact .inr ⟨e, by simpa using hj.symm⟩
      · simp [look] at hj
  have hblk : ∀ j f, look j ([(id, Ent.arr k r.xs), (i, .res (rowsR X.P X.Λ k) (l1 ++ l2))] : Sg) = some f → ∀ b, blk γ' j f b → (j = id ∧ b = r.b) ∨ (j = i ∧ ∃ q, q ∈ l1 ++ l2 ∧ q.b = b) := fun j f hj b hb => by
    rcases two j f hj with ⟨rfl, rfl⟩ | ⟨rfl, rfl⟩
    · left
      have := hb.1
      rw [gid] at this
      exact ⟨rfl, this⟩
    · right
      have : (γ' j).o b := hb
      rw [gi] at this
      refine ⟨rfl, ?_⟩
      rw [← hO] at this
      exact this
  have hin : ∀ j f, look j ([(id, Ent.arr k r.xs), (i, .res (rowsR X.P X.Λ k) (l1 ++ l2))] : Sg) = some f → ∀ b, blk γ' j f b → (γ i).o b := fun j f hj b hb => by
    rcases hblk j f hj b hb with ⟨_, rfl⟩ | ⟨_, q, hq, rfl⟩
    · exact (ho _).2 ⟨r, hrm, rfl⟩
    · exact (ho _).2 ⟨q, hmem q hq, rfl⟩
  have hm : Mem w H (γ i).o γ' H [(id, .arr k r.xs), (i, .res (rowsR X.P X.Λ k) (l1 ++ l2))] w := by
    refine ⟨Keeps.refl _ _, HLe.refl _, HNew.refl _ _ _, s.mem.hok, fun j f hj => ?_, fun j f hj b hb => ?_, fun j f hj b hb => ?_, fun j f l f' b hj hl hb hb' => ?_⟩
    · rcases two j f hj with ⟨rfl, rfl⟩ | ⟨rfl, rfl⟩
      · show _ ∧ _ ∧ _
        rw [gid]
        exact ⟨c2, c3, fun _ => ⟨tt, us, c4, c5, c6⟩⟩
      · show rowsOk k (l1 ++ l2) (γ' j).o H w
        rw [gi]
        refine ⟨fun b => ?_, hpw, fun q hq => hr q (hmem q hq)⟩
        rw [← hO]
    · exact s.mem.free i _ hi b (hin j f hj b hb)
    · exact .inr (hin j f hj b hb)
    · rcases hblk j f hj b hb with ⟨e1, h1⟩ | ⟨e1, q1, h1, h2⟩ <;> rcases hblk l f' hl b hb' with ⟨e2, h3⟩ | ⟨e2, q2, h3, h4⟩
      · rw [e1, e2]
      · exact absurd (h4.trans h1) (hsep q2 h3)
      · exact absurd (h2.trans h3) (hsep q1 h1)
      · rw [e1, e2]
  have key := s.step (σ' := [(id, .arr k r.xs), (i, .res (rowsR X.P X.Λ k) (l1 ++ l2))]) (σr := rest [(i, .gone)] σ) (d := none) (V := .junk) (v := undef) hm (fun b hb => ⟨i, _, hi, by rw [look_rest, look_cons, if_pos rfl]; rfl, hb⟩) wk_rest (fun j e hj => ?_) (fun j e hj => ?_) (fun j hj => ?_) (fun j y hj l hl => ?_) rfl (.junk _)
  · refine ⟨γ', H, key.tmps fun l b hl => ?_⟩
    rw [look_cons] at hl
    split at hl
    · next e =>
      subst e
      cases hl
      obtain ⟨u, hu, hr1⟩ := s.tmp l _ hx
      obtain rfl := rep_v hr1
      refine ⟨_, hu, ?_⟩
      have := Rep.arr (γ := γ') (H := H) id k r.xs.length (some ⟨r.b, 0, none⟩)
      rw [gid] at this
      exact this c2 fun _ => rfl
    · exact key.tmp l b hl
  · have h1 := fresh_s hfi hj
    have h2 := fresh_s hf (wk_rest j e hj)
    rw [look_cons, if_neg h2.1, look_cons, if_neg h1.1]; rfl
  · have h1 := fresh_s hfi hj
    have h2 := fresh_s hf (wk_rest j e hj)
    refine ⟨go j h1.1 h2.1, fun l hl => go l (fun e => ?_) (fun e => ?_)⟩
    · subst e; rw [h1.2] at hl; cases hl
    · subst e; rw [h2.2] at hl; cases hl
  · exact go j (fresh_p hfi hj) (fresh_p hf hj)
  · refine go l (fun e => ?_) (fun e => ?_)
    · subst e; rw [fresh_t hfi hj] at hl; cases hl
    · subst e; rw [fresh_t hf hj] at hl; cases hl
/-- A private row is put among the rows. -/
theorem St.rowIn (i id x : Nat) {γ : Ids} {H : HF} {a : Act} {w : World} (s : St X γ H t σ a w) {k n : Nat} {xs : List (List D)} {l1 l2 : List RW} (hi : look i σ = some (.res (rowsR X.P X.Λ k) (l1 ++ l2))) (hid : look id σ = some (.arr k xs)) (hx : look x t = some (.arr id k n)) (hn : xs.length = n) (h0 : 0 < n)
    (hf : isFresh id [] (rest [(id, .gone)] σ) X.pin = true) (hfi : isFresh i (dropT id t) (rest [(i, .gone)] σ) X.pin = true) :
    ∃ γ' b c, St X γ' H ((x, .d (.v (RW.sl ⟨b, c, xs⟩))) :: dropT id t) ((i, .res (rowsR X.P X.Λ k) (l1 ++ ⟨b, c, xs⟩ :: l2)) :: rest [(i, .gone), (id, .gone)] σ) a w := by
  have hok : rowsOk k (l1 ++ l2) (γ i).o H w := s.mem.ent i _ hi
  obtain ⟨ho, hp, hr⟩ := hok
  obtain ⟨e1, e2, e3⟩ := s.mem.ent id _ hid
  obtain ⟨ux, hux, hrx⟩ := s.tmp x _ hx
  have hc0 : 0 < (γ id).n := by omega
  obtain ⟨tt, us, e4, e5, e6⟩ := e3 hc0
  have hne : i ≠ id := fun e => by
    subst e
    rw [hi] at hid; cases hid
  have hsep : ∀ q, q ∈ l1 ++ l2 → q.b ≠ (γ id).b := fun q hq e => hne (s.mem.apart i _ id _ q.b hi hid ((ho _).2 ⟨q, hq, rfl⟩) ⟨e, hc0⟩)
  generalize hB : (γ id).b = B at e4 hsep
  generalize hC : (γ id).n = C at e1 e5 hc0
  have hpw : (l1 ++ (⟨B, C, xs⟩ : RW) :: l2).Pairwise (fun r r' => r.b ≠ r'.b) := by
    rw [List.pairwise_append] at hp ⊢
    obtain ⟨p1, p2, p3⟩ := hp
    refine ⟨p1, List.pairwise_cons.2 ⟨fun q hq e => hsep q (List.mem_append_right _ hq) e.symm, p2⟩, fun a ha b hb => ?_⟩
    rcases List.mem_cons.1 hb with rfl | hb
    · exact hsep a (List.mem_append_left _ ha)
    · exact p3 a ha b hb
  have hmem : ∀ q, q ∈ l1 ++ (⟨B, C, xs⟩ : RW) :: l2 → q = ⟨B, C, xs⟩ ∨ q ∈ l1 ++ l2 := fun q hq => by
    rcases List.mem_append.1 hq with h | h
    · exact .inr (List.mem_append_left _ h)
    · rcases List.mem_cons.1 h with h | h
      · exact .inl h
      · exact .inr (List.mem_append_right _ h)
  generalize hO : (fun b => ∃ q, q ∈ l1 ++ (⟨B, C, xs⟩ : RW) :: l2 ∧ q.b = b) = O'
  generalize hg : upd γ i ⟨(γ i).b, (γ i).n, O'⟩ = γ'
  have gi : γ' i = ⟨(γ i).b, (γ i).n, O'⟩ := by rw [← hg, upd_same]
  have go : ∀ j, j ≠ i → γ j = γ' j := fun j h1 => by rw [← hg, upd_other _ _ h1]
  have one : ∀ j f, look j ([(i, Ent.res (rowsR X.P X.Λ k) (l1 ++ ⟨B, C, xs⟩ :: l2))] : Sg) = some f → j = i ∧ f = .res (rowsR X.P X.Λ k) (l1 ++ ⟨B, C, xs⟩ :: l2) := fun j f hj => by
    rw [look_cons] at hj
    split at hj
    · next e' => exact ⟨e', by simpa using hj.symm⟩
    · simp [look] at hj
  have hin : ∀ j f, look j ([(i, Ent.res (rowsR X.P X.Λ k) (l1 ++ ⟨B, C, xs⟩ :: l2))] : Sg) = some f → ∀ b, blk γ' j f b → b = B ∨ (γ i).o b := fun j f hj b hb => by
    obtain ⟨rfl, rfl⟩ := one j f hj
    have : (γ' j).o b := hb
    rw [gi, ← hO] at this
    obtain ⟨q, hq, rfl⟩ := this
    rcases hmem q hq with rfl | hq
    · exact .inl rfl
    · exact .inr ((ho _).2 ⟨q, hq, rfl⟩)
  have s1 := s.drop id
  have hi1 : look i (dropS id σ) = some (.res (rowsR X.P X.Λ k) (l1 ++ l2)) := by rw [dropS, look_map, hi]; rfl
  have hid1 : look id (dropS id σ) = some (.arr k xs) := by rw [dropS, look_map, hid]; rfl
  have hm : Mem w H (fun b => b = B ∨ (γ i).o b) γ' H [(i, .res (rowsR X.P X.Λ k) (l1 ++ ⟨B, C, xs⟩ :: l2))] w := by
    refine ⟨Keeps.refl _ _, HLe.refl _, HNew.refl _ _ _, s.mem.hok, fun j f hj => ?_, fun j f hj b hb => ?_, fun j f hj b hb => .inr (hin j f hj b hb), fun j f l f' b hj hl hb hb' => ?_⟩
    · obtain ⟨rfl, rfl⟩ := one j f hj
      show rowsOk k (l1 ++ ⟨B, C, xs⟩ :: l2) (γ' j).o H w
      rw [gi]
      refine ⟨fun b => by rw [← hO], hpw, fun q hq => ?_⟩
      rcases hmem q hq with rfl | hq
      · exact ⟨hc0, e1, e2, tt, us, e4, e5, e6⟩
      · exact hr q hq
    · rcases hin j f hj b hb with rfl | h
      · exact s.mem.free id _ hid _ ⟨hB.symm, by rw [hC]; exact hc0⟩
      · exact s.mem.free i _ hi b h
    · rw [(one j f hj).1, (one l f' hl).1]
  have lr : ∀ j e, look j (rest [(i, .gone), (id, .gone)] (dropS id σ)) = some e → j ≠ i ∧ j ≠ id ∧ ∃ e0, look j σ = some e0 ∧ e = dropE id e0 := fun j e hj => by
    rw [look_rest] at hj
    split at hj
    · cases hj
    · next h9 =>
      have h1 : j ≠ i := fun e => h9 (by rw [look_cons, if_pos e]; rfl)
      have h2 : j ≠ id := fun e => h9 (by rw [look_cons, if_neg h1, look_cons, if_pos e]; rfl)
      exact ⟨h1, h2, look_drop hj⟩
  have key := s1.step (σ' := [(i, .res (rowsR X.P X.Λ k) (l1 ++ ⟨B, C, xs⟩ :: l2))]) (σr := rest [(i, .gone), (id, .gone)] (dropS id σ)) (d := none) (V := .junk) (v := undef) hm (fun b hb => ?_) wk_rest (fun j e hj => ?_) (fun j e hj => ?_) (fun j hj => go j (fresh_p hfi hj)) (fun j y hj l hl => go l fun e => ?_) rfl (.junk _)
  · refine ⟨γ', B, C, (key.wk (t' := dropT id t) (σ' := (i, .res (rowsR X.P X.Λ k) (l1 ++ ⟨B, C, xs⟩ :: l2)) :: rest [(i, .gone), (id, .gone)] σ) (Wk.refl _) fun j e hj => ?_).tmps fun l b hl => ?_⟩
    · rw [look_cons] at hj
      rw [List.singleton_append, look_cons]
      split at hj
      · next e1 => rw [if_pos e1]; exact hj
      · next e1 =>
        rw [if_neg e1]
        rw [look_rest] at hj ⊢
        split at hj
        · cases hj
        · next h9 =>
          rw [if_neg h9, dropS, look_map, hj]
          have h2 : j ≠ id := fun e => h9 (by rw [look_cons]; split; rfl; rw [look_cons, if_pos e]; rfl)
          have h3 : look j (rest [(id, .gone)] σ) = some e := by
            rw [look_rest, look_cons, if_neg h2]; exact hj
          have h4 := (fresh_s hf h3).2
          show some (dropE id e) = some e
          congr 1
          have hcs : ∀ cs : List AV, cs.any (has2 id) = false → cs.map (Go.Gv.drop id) = cs := fun cs h => by
            have : ∀ a, a ∈ cs → Go.Gv.drop id a = a := fun a ha => by
              have := List.any_eq_false.1 h a ha
              unfold Go.Gv.drop
              split
              · next h5 => exact absurd h5 this
              · rfl
            exact (List.map_congr_left this).trans (List.map_id _)
          cases e with
          | cells cs => exact congrArg Ent.cells (hcs cs h4)
          | cellsT t cs => exact congrArg (Ent.cellsT t) (hcs cs h4)
          | _ => rfl
    · rw [look_cons] at hl
      split at hl
      · next e =>
        subst e
        cases hl
        refine ⟨ux, hux, ?_⟩
        cases hrx with
        | arr _ _ _ A hn2 hA =>
          rw [hA (by omega), hB, hC, ← hn]
          exact .d _ _ (.v _ rfl)
      · exact key.tmp l b hl
  · rcases hb with rfl | hb
    · exact ⟨id, _, hid1, by rw [look_rest, look_cons, look_cons]; simp [isSomeB, hne.symm], hB.symm, by rw [hC]; exact hc0⟩
    · exact ⟨i, _, hi1, by rw [look_rest, look_cons, if_pos rfl]; rfl, hb⟩
  · rw [look_cons, if_neg (lr j e hj).1]; rfl
  · obtain ⟨h1, h2, e0, h3, rfl⟩ := lr j e hj
    refine ⟨go j h1, fun l hl => go l fun e => ?_⟩
    subst e
    have h4 : look j (rest [(l, .gone)] σ) = some e0 := by
      rw [look_rest, look_cons, if_neg h1]; exact h3
    have h5 := (fresh_s hfi h4).2
    have h6 : entHas l (dropE id e0) = true → entHas l e0 = true := fun h => by
      have hcs : ∀ cs : List AV, (cs.map (Go.Gv.drop id)).any (has2 l) = true → cs.any (has2 l) = true := fun cs h => by
        rw [List.any_eq_true] at h ⊢
        obtain ⟨y, hy, hy2⟩ := h
        obtain ⟨z, hz, rfl⟩ := List.mem_map.1 hy
        refine ⟨z, hz, ?_⟩
        unfold Go.Gv.drop at hy2
        split at hy2
        · cases hy2
        · exact hy2
      cases e0 with
      | cells cs => exact hcs cs h
      | cellsT t cs => exact hcs cs h
      | _ => exact h
    rw [h6 hl] at h5; cases h5
  · subst e; rw [fresh_t hfi hj] at hl; cases hl
end rows
section ops
variable {X : Cx} {ty : TypeId} {pos : String} {aft : Array Edge} {g : Option (Nat × Bool)} {t : T} {σ : Sg} {K : T → Sg → Prop}
/-- append onto one of the rows. -/
theorem OpJ.rowApp (i id : Nat) {p d0 : Nat} {y : Operand} {st xt : TypeId} {k : Nat} {r : RW} {l1 l2 : List RW} {av : AV} {ys : List (List D)} (hx : look p t = some (.d (.v r.sl))) (hi : look i σ = some (.res (rowsR X.P X.Λ k) (l1 ++ r :: l2)))
    (hy : ge ((p, .arr id k r.xs.length) :: t) y = some av) (hel : elems av = some (k, ys)) (hI : elInfo X.P st xt = some k) (hb : r.xs.length + ys.length ≤ 1000000000) (h0 : 0 < r.xs.length + ys.length)
    (hf : isFresh id t σ X.pin = true) (hfi : isFresh i t (rest [(i, .gone)] σ) X.pin = true) (hN : dOk (some d0) X.N = true)
    (h1 : isFresh id [] (rest [(id, .gone)] ((id, .arr k (r.xs ++ ys)) :: dropS id ((id, .arr k r.xs) :: (i, .res (rowsR X.P X.Λ k) (l1 ++ l2)) :: rest [(i, .gone)] σ))) X.pin = true)
    (h2 : isFresh i (dropT id (putT (some d0) (.arr id k (r.xs.length + ys.length)) (dropT id ((p, .arr id k r.xs.length) :: t)))) (rest [(i, .gone)] ((id, .arr k (r.xs ++ ys)) :: dropS id ((id, .arr k r.xs) :: (i, .res (rowsR X.P X.Λ k) (l1 ++ l2)) :: rest [(i, .gone)] σ))) X.pin = true)
    (kk : ∀ b c, K ((d0, .d (.v (RW.sl ⟨b, c, r.xs ++ ys⟩))) :: dropT id (putT (some d0) (.arr id k (r.xs.length + ys.length)) (dropT id ((p, .arr id k r.xs.length) :: t))))
      ((i, .res (rowsR X.P X.Λ k) (l1 ++ ⟨b, c, r.xs ++ ys⟩ :: l2)) :: rest [(i, .gone), (id, .gone)] ((id, .arr k (r.xs ++ ys)) :: dropS id ((id, .arr k r.xs) :: (i, .res (rowsR X.P X.Λ k) (l1 ++ l2)) :: rest [(i, .gone)] σ)))) :
    OpJ X ⟨some d0, .call { callee := .builtin .append, args := #[.tmp p, y], argTypes := #[st, xt] }, ty, pos, aft, g⟩ t σ K := by
  intro γ H a w s next Q' hn
  have hne : i ≠ id := (fresh_s hf hi).1
  obtain ⟨γ1, H1, s1⟩ := SJ.rowOut i id p hi hx hf hfi γ H a w s
  refine O.appA (K := fun t' σ' => t' = _ ∧ σ' = _) (x := .tmp p) (i := id) (k := k) (n := r.xs.length) (xs := r.xs) hN (by show look p _ = _; rw [look_cons, if_pos rfl]) hy (by rw [look_cons, if_pos rfl]) hel hI (by simp only [isFresh, Bool.and_eq_true] at hf; exact hf.2) rfl hb ⟨rfl, rfl⟩ γ1 H1 a w s1 next Q' ?_
  rintro γ2 H2 t2 σ2 a2 w2 s2 ⟨rfl, rfl⟩
  obtain ⟨γ3, b, c, s3⟩ := s2.rowIn i id d0 (k := k) (n := r.xs.length + ys.length) (xs := r.xs ++ ys) (l1 := l1) (l2 := l2) (by
    rw [look_cons, if_neg hne, dropS, look_map, look_cons, if_neg hne, look_cons, if_pos rfl]; rfl) (by rw [look_cons, if_pos rfl]) (by show look d0 (_ :: _) = _; rw [look_cons, if_pos rfl]) (by rw [List.length_append]) h0 h1 h2
  exact hn γ3 H2 _ _ a2 w2 s3 (kk b c)
/-- append onto nil: a row more. -/
theorem OpJ.rowNew (i id : Nat) {p d0 : Nat} {y : Operand} {st xt : TypeId} {k : Nat} {l1 : List RW} {av : AV} {ys : List (List D)} (hx : look p t = some (.d (.v (.slice none 0 0)))) (hi : look i σ = some (.res (rowsR X.P X.Λ k) l1))
    (hy : ge ((p, .arr id k 0) :: t) y = some av) (hel : elems av = some (k, ys)) (hI : elInfo X.P st xt = some k) (hb : 0 + ys.length ≤ 1000000000) (h0 : 0 < 0 + ys.length)
    (hf : isFresh id t σ X.pin = true) (hN : dOk (some d0) X.N = true)
    (h1 : isFresh id [] (rest [(id, .gone)] ((id, .arr k ([] ++ ys)) :: dropS id ((id, .arr k []) :: σ))) X.pin = true)
    (h2 : isFresh i (dropT id (putT (some d0) (.arr id k (0 + ys.length)) (dropT id ((p, .arr id k 0) :: t)))) (rest [(i, .gone)] ((id, .arr k ([] ++ ys)) :: dropS id ((id, .arr k []) :: σ))) X.pin = true)
    (kk : ∀ b c, K ((d0, .d (.v (RW.sl ⟨b, c, [] ++ ys⟩))) :: dropT id (putT (some d0) (.arr id k (0 + ys.length)) (dropT id ((p, .arr id k 0) :: t))))
      ((i, .res (rowsR X.P X.Λ k) (l1 ++ [⟨b, c, [] ++ ys⟩])) :: rest [(i, .gone), (id, .gone)] ((id, .arr k ([] ++ ys)) :: dropS id ((id, .arr k []) :: σ)))) :
    OpJ X ⟨some d0, .call { callee := .builtin .append, args := #[.tmp p, y], argTypes := #[st, xt] }, ty, pos, aft, g⟩ t σ K := by
  intro γ H a w s next Q' hn
  have hne : i ≠ id := (fresh_s hf hi).1
  obtain ⟨γ1, H1, s1⟩ := SJ.nilArr id p k hx hf γ H a w s
  refine O.appA (K := fun t' σ' => t' = _ ∧ σ' = _) (x := .tmp p) (i := id) (k := k) (n := 0) (xs := []) hN (by show look p _ = _; rw [look_cons, if_pos rfl]) hy (by rw [look_cons, if_pos rfl]) hel hI (by simp only [isFresh, Bool.and_eq_true] at hf; exact hf.2) rfl hb ⟨rfl, rfl⟩ γ1 H1 a w s1 next Q' ?_
  rintro γ2 H2 t2 σ2 a2 w2 s2 ⟨rfl, rfl⟩
  obtain ⟨γ3, b, c, s3⟩ := s2.rowIn i id d0 (k := k) (n := 0 + ys.length) (xs := [] ++ ys) (l1 := l1) (l2 := []) (by
    rw [List.append_nil, look_cons, if_neg hne, dropS, look_map, look_cons, if_neg hne, hi]; rfl) (by rw [look_cons, if_pos rfl]) (by show look d0 (_ :: _) = _; rw [look_cons, if_pos rfl]) (by rw [List.length_append]; rfl) h0 h1 h2
  exact hn γ3 H2 _ _ a2 w2 s3 (kk b c)
variable {d : Option Nat}
/-- An element's place, of a slice whose place is told. -/
theorem O.idxV {s e : TypeId} {x y : Operand} {k b n c : Nat} {kk : IntKind} {m : Int} (hx : ge t x = some (.d (.v (.slice (some ⟨b, 0, none⟩) n c)))) (hy : ge t y = some (.d (.v (.int kk m)))) (hu : und X.P s = some (.slice e)) (hz : szOf X.P e = some k) (hm : 0 ≤ m) (hc : m < (n : Int)) :
    QJ X ⟨d, .indexAddr s x y, ty, pos, aft, g⟩ t σ (.d (.v (.pointer (some ⟨b, m.toNat * k, none⟩)))) :=
  QJ.value (by simp) (fun γ H a w so sm => by
    have h1 := rep_v (so _ (by simp [Op.operands, Call.operands]) _ hx)
    have h2 := rep_v (so _ (by simp [Op.operands, Call.operands]) _ hy)
    have hb : 0 ≤ m ∧ m < (n : Int) := ⟨hm, hc⟩
    rw [und_eq] at hu
    have hz' := fun w => szOf_run (w := w) hz
    refine ⟨.pointer (some ⟨b, m.toNat * k, none⟩), ?_, .d _ _ (.v _ rfl)⟩
    simp [execOp, h1, h2, Instr.indexAt, asIntOf, underlying, hu, hz', hb, add_lit])
/-- A row's element is read. -/
theorem O.loadV {x : Operand} {e : TypeId} {b off i : Nat} {rs : List RW} {r : RW} {v : D} (hx : ge t x = some (.d (.v (.pointer (some ⟨b, off, none⟩))))) (hi : look i σ = some (.res (rowsR X.P X.Λ 1) rs)) (hr : r ∈ rs) (hb : r.b = b) (hv : r.xs[off]? = some [v]) (ha : aggOf X.P e = some false) :
    QJ X ⟨d, .load e x, ty, pos, aft, g⟩ t σ (.d v) :=
  QJ.value (by simp) (fun γ H a w so sm => by
    have h1 := rep_v (so _ (by simp [Op.operands, Call.operands]) _ hx)
    have hok : rowsOk 1 rs (γ i).o H w := sm.ent i _ hi
    obtain ⟨_, c2, _, tt, us, h2, h3, h4⟩ := hok.2.2 r hr
    rw [Nat.mul_one] at h3
    have hlt : off < us.length := by have := (List.getElem?_eq_some_iff.1 hv).1; omega
    refine ⟨us[off], ?_, .d _ _ (h4 off 0 _ v _ hv rfl (by simp [hlt]))⟩
    have hc : w.cell? ⟨b, off, none⟩ = some us[off] := by rw [← hb, cell_of_block h2]; simp [hlt]
    simp [execOp, Instr.loadAt, Instr.sureAddr, h1, loadVar_one (aggOf_run ha) hc])
end ops
section more
variable {X : Cx} {ty : TypeId} {pos : String} {aft : Array Edge} {g : Option (Nat × Bool)} {t : T} {σ : Sg} {K : T → Sg → Prop}
end more
end Go.Gv
end
section
open Go Go.Gv
attribute [local irreducible] Go.Gv.WJ Go.Gv.OpJ Go.Gv.QJ Go.Gv.Spl Go.Gv.Req Go.Gv.IdxP Go.Gv.RegP Go.Gv.FinP Go.Gv.CellP Go.Gv.CellsP Go.Gv.ArrP Go.Gv.ArrsP Go.Gv.DropP Go.Gv.ByteP Go.Gv.StoreP
set_option maxRecDepth 100000
namespace Go.Proofs.E
attribute [local irreducible] PutP LookP
abbrev clksv (l : List TA) : AV := if allMay l = true then .tup [.d (.sl 1 ((runC l).cs.map clD)), bv true] else .tup [.d (.v (.slice none 0 0)), bv false]
theorem clRow_app (l : List (List Int)) (c : List Int) : l.map clD ++ [clD c] = (l ++ [c]).map clD := by simp
theorem th_get {s : CS} {i : Nat} (h : i < s.th.length) : (s.th.map clv)[i]? = some (clv (s.th.getD i [])) := by
  rw [List.getElem?_map, List.getElem?_eq_getElem h, List.getD_eq_getElem?_getD, List.getElem?_eq_getElem h]; rfl
abbrev SC0 (th : List (List Int)) (sg : List (Int × List Int)) (cs : List (List Int)) : Sg := [(4, .cells (th.map clv)), (10, .mp false (sg.map fun p => kInt.val p.1) (sg.map fun p => clD p.2)), (6, .arr 1 (cs.map clD))]
theorem len16T {α : Type} {l : List α} (h : l.length = 16) : ∃ a0 a1 a2 a3 a4 a5 a6 a7 a8 a9 a10 a11 a12 a13 a14 a15, l = [a0, a1, a2, a3, a4, a5, a6, a7, a8, a9, a10, a11, a12, a13, a14, a15] := by
  match l, h with
  | [a0, a1, a2, a3, a4, a5, a6, a7, a8, a9, a10, a11, a12, a13, a14, a15], _ => exact ⟨_, _, _, _, _, _, _, _, _, _, _, _, _, _, _, _, rfl⟩
theorem set_clv (th : List (List Int)) (i : Nat) (c : List Int) : setL (th.map clv) (0 + i * 1) [clv c] = (th.set i c).map clv := by rw [Nat.mul_one, Nat.zero_add, List.map_set]; rfl
theorem set_clv6 (th : List (List Int)) (i : Nat) (c : List Int) : List.map (Go.Gv.drop 6) (setL (th.map clv) (0 + i * 1) [clv c]) = (th.set i c).map clv := by rw [set_clv, List.map_map]; rfl
theorem JoinN_c (d : List Int) (hd : d.length ≤ 1000000) : Cv 129 [.d (.v (.slice none 0 0)), clv d] (clv (joinL [] d)) := by
  refine Ct.view (Join13_c [] d (by decide) hd) rfl fun j a b ha hb γ H u r => ?_
  match j, ha, hb with
  | 0, ha, hb => cases ha; cases hb; exact nil_sl 1 r
  | 1, ha, hb => cases ha; cases hb; exact r
set_option maxHeartbeats 2000000 in
theorem clocks_c (l : List TA) (hl : l.length ≤ 1000) : Cv 62 [.d (.sl 3 (l.map taD))] (clksv l) := by
  refine Ct.of_vc Tryz.f62 Tryz.func62 rfl rfl fun w H B g0 => ?_
  refine WJ.shift (SJ.nilArr 6 6 1 rfl rfl) ?_
  refine WJ.shift (SJ.viewCell 4 0 rfl rfl fun _ _ _ h => nil_sl 1 h) ?_
  refine WJ.shift (SJ.viewCell 4 1 rfl rfl fun _ _ _ h => nil_sl 1 h) ?_
  refine WJ.shift (SJ.viewCell 4 2 rfl rfl fun _ _ _ h => nil_sl 1 h) ?_
  refine WJ.shift (SJ.viewCell 4 3 rfl rfl fun _ _ _ h => nil_sl 1 h) ?_
  refine WJ.shift (SJ.viewCell 4 4 rfl rfl fun _ _ _ h => nil_sl 1 h) ?_
  refine WJ.shift (SJ.viewCell 4 5 rfl rfl fun _ _ _ h => nil_sl 1 h) ?_
  refine WJ.shift (SJ.viewCell 4 6 rfl rfl fun _ _ _ h => nil_sl 1 h) ?_
  refine WJ.shift (SJ.viewCell 4 7 rfl rfl fun _ _ _ h => nil_sl 1 h) ?_
  refine WJ.shift (SJ.viewCell 4 8 rfl rfl fun _ _ _ h => nil_sl 1 h) ?_
  refine WJ.shift (SJ.viewCell 4 9 rfl rfl fun _ _ _ h => nil_sl 1 h) ?_
  refine WJ.shift (SJ.viewCell 4 10 rfl rfl fun _ _ _ h => nil_sl 1 h) ?_
  refine WJ.shift (SJ.viewCell 4 11 rfl rfl fun _ _ _ h => nil_sl 1 h) ?_
  refine WJ.shift (SJ.viewCell 4 12 rfl rfl fun _ _ _ h => nil_sl 1 h) ?_
  refine WJ.shift (SJ.viewCell 4 13 rfl rfl fun _ _ _ h => nil_sl 1 h) ?_
  refine WJ.shift (SJ.viewCell 4 14 rfl rfl fun _ _ _ h => nil_sl 1 h) ?_
  refine WJ.shift (SJ.viewCell 4 15 rfl rfl fun _ _ _ h => nil_sl 1 h) ?_
  refine WJ.shift (SJ.wk (t' := [(4, .box 4 0), (0, .d (.sl 3 (l.map taD))), (5, .mp 10), (6, .arr 6 1 0), (11, .d (.sl 3 (l.map taD))), (12, iv (l.map taD).length), (13, iv 0)]) (σ' := [(4, .cells ((List.replicate 16 ([] : List Int)).map clv)), (10, .mp false [] []), (6, .arr 1 [])]) (Wk.cons rfl (Wk.cons rfl (Wk.cons rfl (Wk.cons rfl (Wk.cons rfl (Wk.cons rfl (Wk.cons rfl (Wk.nil _)))))))) (Wk.cons rfl (Wk.cons rfl (Wk.cons rfl (Wk.nil _))))) ?_
  refine WJ.loopK (V := Nat) (fun i => [(13, iv i), (6, .arr 6 1 i)]) (fun i => SC0 (runC (l.take i)).th (runC (l.take i)).sg (runC (l.take i)).cs) [4, 10, 6] (fun i => l.length - i) (fun i => i ≤ l.length ∧ ∀ a, a ∈ l.take i → mayA a = true) 0 ⟨Nat.zero_le _, fun _ h => by simp at h⟩ (by repeat' (first | exact trivial | exact rfl | refine And.intro ?_ ?_)) (by rw [List.take_zero]; exact (by repeat' (first | exact trivial | exact rfl | refine And.intro ?_ ?_))) ?_
  rintro i ⟨hi, hall⟩
  obtain ⟨th, sg, hI⟩ := cinvT hl i hi hall
  have hrl := runC_len (l.take i)
  rw [List.length_take, Nat.min_eq_left hi] at hrl
  refine Spl.of (fun h1 => ?_) (fun h1 => ?_)
  · have hlt : i < l.length := by have := of_decide_eq_true h1; simp at this; omega
    have hx := get_acD hlt
    have hy := getA hlt
    have hsn := take_snocA hy
    have hno := fun h => all_no hy h
    have hst := runC_snoc (l.take i) (l.getD i AC0)
    rw [← hsn] at hst
    have hall' : mayA (l.getD i AC0) = true → ∀ a, a ∈ l.take (i + 1) → mayA a = true := fun h a ha => by
      rw [hsn] at ha
      rcases List.mem_append.1 ha with h1 | h1
      · exact hall a h1
      · rw [List.mem_singleton.1 h1]; exact h
    generalize l.getD i AC0 = a at hx hy hsn hno hst hall'
    generalize runC (l.take i) = s at hrl hst hI ⊢
    obtain ⟨x0, x1, x2, x3, x4, x5, x6, x7, x8, x9, x10, x11, x12, x13, x14, x15, hth⟩ := len16T hI.n16
    rw [hth]
    (repeat (first | refine Spl.t rfl ?_ | refine Spl.f rfl ?_))
    refine IdxP.of (taD a) (by omega) (by rw [Int.toNat_natCast]; exact hx) ?_
    refine OpJ.callV (May14_c a) (fun _ _ => rfl) rfl rfl rfl ?_
    (repeat (first | refine Spl.t rfl ?_ | refine Spl.f rfl ?_))
    refine Spl.of (fun h2 => ?_) (fun h2 => ?_)
    · have h2 : mayA a = false := by simpa using h2
      (repeat (first | refine Spl.t rfl ?_ | refine Spl.f rfl ?_))
      refine FinP.open rfl ?_
      show AV.tup _ = clksv l
      rw [clksv, hno h2, if_neg (by simp)]; rfl
    · have h2 : mayA a = true := by simpa using h2
      obtain ⟨t0, t1, _, _⟩ := (mayA_iff a).1 h2
      have hall' := hall' h2
      have n16 := hI.n16
      have hcell : ([x0, x1, x2, x3, x4, x5, x6, x7, x8, x9, x10, x11, x12, x13, x14, x15].map clv)[0 + a.t.toNat * 1]? = some (clv (s.c0 a)) := by rw [← hth, Nat.mul_one, Nat.zero_add]; exact th_get (s := s) (i := a.t.toNat) (by omega)
      have hset : List.map (Go.Gv.drop 6) (setL ([x0, x1, x2, x3, x4, x5, x6, x7, x8, x9, x10, x11, x12, x13, x14, x15].map clv) (0 + a.t.toNat * 1) [clv (s.c a)]) = (s.step a).th.map clv := by rw [← hth]; exact set_clv6 s.th a.t.toNat (s.c a)
      have hl1 := hI.c1_len a
      have hl0 : (s.c0 a).length ≤ 16 := hI.lt _
      have hlg := hI.ls a.loc
      have hlc := hI.c_len h2
      have hT : Cv 130 [clv (s.c1 a), iv a.t] (clv (s.c a)) := Tick13_c (s.c1 a) a.t (by omega) t0 t1
      have hJ := Join13_c (s.g a.loc) (s.c a) (by omega) (by omega)
      have hJ1 := Join13_c (s.c0 a) (s.g a.loc) (by omega) (by omega)
      (repeat (first | refine Spl.t rfl ?_ | refine Spl.f rfl ?_))
      refine Req.of ?_ ?_
      · exact ⟨t0, t1⟩
      refine CellP.of (clv (s.c0 a)) hcell ?_
      (repeat (first | refine Spl.t rfl ?_ | refine Spl.f rfl ?_))
      refine Spl.of (fun h3 => ?_) (fun h3 => ?_)
      · have h3 := of_decide_eq_true h3
        have hc1 : s.c1 a = joinL (s.c0 a) (s.g a.loc) := if_pos h3
        (repeat (first | refine Spl.t rfl ?_ | refine Spl.f rfl ?_))
        refine LookP.by kInt s.sg (fun x hx => ?_) (fun hx => ?_)
        · have hgx : s.g a.loc = x := by unfold CS.g; rw [hx]; rfl
          rw [hgx] at hc1 hJ1
          refine OpJ.callV hJ1 (fun _ _ => rfl) rfl rfl rfl ?_
          rw [hc1] at hT
          refine OpJ.callV hT (fun _ _ => rfl) rfl rfl rfl ?_
          (repeat (first | refine Spl.t rfl ?_ | refine Spl.f rfl ?_))
          refine Spl.of (fun h4 => ?_) (fun h4 => ?_)
          · have h4 := of_decide_eq_true h4
            have hsg : (s.step a).sg = aset a.loc (joinL (s.g a.loc) (s.c a)) s.sg := if_pos h4
            (repeat (first | refine Spl.t rfl ?_ | refine Spl.f rfl ?_))
            refine RegP.mix 9 rfl (by decide +kernel) ?_
            refine LookP.by kInt s.sg (fun x hx => ?_) (fun hx => ?_)
            · have hgx : s.g a.loc = x := by unfold CS.g; rw [hx]; rfl
              rw [hgx] at hJ hsg
              refine QuietP.of (QJ.call hJ (fun _ _ => rfl) rfl rfl) ?_
              (repeat' (refine And.intro ?_ ?_))
              (repeat (first | refine Spl.t rfl ?_ | refine Spl.f rfl ?_))
              all_goals first | exact trivial | skip
              refine PutP.by kInt s.sg (joinL x (s.c a)) (e := clD) ?_
              (repeat (first | refine Spl.t rfl ?_ | refine Spl.f rfl ?_))
              refine Req.of ?_ ?_
              · exact ⟨t0, t1⟩
              refine Req.of ?_ ?_
              · show 0 + a.t.toNat * 1 + 1 ≤ 16
                omega
              (repeat (first | refine Spl.t rfl ?_ | refine Spl.f rfl ?_))
              refine Req.of ⟨by rw [List.length_map]; exact hrl, ?_⟩ ?_
              · show i + 1 ≤ 1000000000; omega
              refine ⟨i + 1, ⟨by omega, hall'⟩, by omega, ⟨some_iv (wrap_id _ (by omega) (by omega)), rfl, trivial⟩, (by repeat' (first | exact trivial | exact rfl | refine And.intro ?_ ?_)), ?_, (by repeat' (first | exact trivial | exact rfl | refine And.intro ?_ ?_))⟩
              refine ⟨?_, ?_, ?_, trivial⟩
              · rw [hst]; exact congrArg (fun x => some (Ent.cells x)) hset
              · rw [hst]; rw [hsg]; rfl
              · rw [hst]; exact congrArg (fun x => some (Ent.arr 1 x)) (clRow_app s.cs (s.c a))

            · have hgx : s.g a.loc = [] := by unfold CS.g; rw [hx]; rfl
              have hJ := JoinN_c (s.c a) (by omega)
              rw [hgx] at hsg
              refine QuietP.of (QJ.call hJ (fun _ _ => rfl) rfl rfl) ?_
              (repeat' (refine And.intro ?_ ?_))
              (repeat (first | refine Spl.t rfl ?_ | refine Spl.f rfl ?_))
              all_goals first | exact trivial | skip
              refine PutP.by kInt s.sg (joinL [] (s.c a)) (e := clD) ?_
              (repeat (first | refine Spl.t rfl ?_ | refine Spl.f rfl ?_))
              refine Req.of ?_ ?_
              · exact ⟨t0, t1⟩
              refine Req.of ?_ ?_
              · show 0 + a.t.toNat * 1 + 1 ≤ 16
                omega
              (repeat (first | refine Spl.t rfl ?_ | refine Spl.f rfl ?_))
              refine Req.of ⟨by rw [List.length_map]; exact hrl, ?_⟩ ?_
              · show i + 1 ≤ 1000000000; omega
              refine ⟨i + 1, ⟨by omega, hall'⟩, by omega, ⟨some_iv (wrap_id _ (by omega) (by omega)), rfl, trivial⟩, (by repeat' (first | exact trivial | exact rfl | refine And.intro ?_ ?_)), ?_, (by repeat' (first | exact trivial | exact rfl | refine And.intro ?_ ?_))⟩
              refine ⟨?_, ?_, ?_, trivial⟩
              · rw [hst]; exact congrArg (fun x => some (Ent.cells x)) hset
              · rw [hst]; rw [hsg]; rfl
              · rw [hst]; exact congrArg (fun x => some (Ent.arr 1 x)) (clRow_app s.cs (s.c a))

          · have h4 := of_decide_eq_false h4
            have hsg : (s.step a).sg = s.sg := if_neg h4
            (repeat (first | refine Spl.t rfl ?_ | refine Spl.f rfl ?_))
            refine Req.of ?_ ?_
            · exact ⟨t0, t1⟩
            refine Req.of ?_ ?_
            · show 0 + a.t.toNat * 1 + 1 ≤ 16
              omega
            (repeat (first | refine Spl.t rfl ?_ | refine Spl.f rfl ?_))
            refine Req.of ⟨by rw [List.length_map]; exact hrl, ?_⟩ ?_
            · show i + 1 ≤ 1000000000; omega
            refine ⟨i + 1, ⟨by omega, hall'⟩, by omega, ⟨some_iv (wrap_id _ (by omega) (by omega)), rfl, trivial⟩, (by repeat' (first | exact trivial | exact rfl | refine And.intro ?_ ?_)), ?_, (by repeat' (first | exact trivial | exact rfl | refine And.intro ?_ ?_))⟩
            refine ⟨?_, ?_, ?_, trivial⟩
            · rw [hst]; exact congrArg (fun x => some (Ent.cells x)) hset
            · rw [hst]; rw [hsg]; rfl
            · rw [hst]; exact congrArg (fun x => some (Ent.arr 1 x)) (clRow_app s.cs (s.c a))

        · have hgx : s.g a.loc = [] := by unfold CS.g; rw [hx]; rfl
          rw [hgx] at hc1 hJ1
          refine OpJ.shift (SJ.nilD 31 1 rfl) ?_
          refine OpJ.callV hJ1 (fun _ _ => rfl) rfl rfl rfl ?_
          rw [hc1] at hT
          refine OpJ.callV hT (fun _ _ => rfl) rfl rfl rfl ?_
          (repeat (first | refine Spl.t rfl ?_ | refine Spl.f rfl ?_))
          refine Spl.of (fun h4 => ?_) (fun h4 => ?_)
          · have h4 := of_decide_eq_true h4
            have hsg : (s.step a).sg = aset a.loc (joinL (s.g a.loc) (s.c a)) s.sg := if_pos h4
            (repeat (first | refine Spl.t rfl ?_ | refine Spl.f rfl ?_))
            refine RegP.mix 9 rfl (by decide +kernel) ?_
            refine LookP.by kInt s.sg (fun x hx => ?_) (fun hx => ?_)
            · have hgx : s.g a.loc = x := by unfold CS.g; rw [hx]; rfl
              rw [hgx] at hJ hsg
              refine QuietP.of (QJ.call hJ (fun _ _ => rfl) rfl rfl) ?_
              (repeat' (refine And.intro ?_ ?_))
              (repeat (first | refine Spl.t rfl ?_ | refine Spl.f rfl ?_))
              all_goals first | exact trivial | skip
              refine PutP.by kInt s.sg (joinL x (s.c a)) (e := clD) ?_
              (repeat (first | refine Spl.t rfl ?_ | refine Spl.f rfl ?_))
              refine Req.of ?_ ?_
              · exact ⟨t0, t1⟩
              refine Req.of ?_ ?_
              · show 0 + a.t.toNat * 1 + 1 ≤ 16
                omega
              (repeat (first | refine Spl.t rfl ?_ | refine Spl.f rfl ?_))
              refine Req.of ⟨by rw [List.length_map]; exact hrl, ?_⟩ ?_
              · show i + 1 ≤ 1000000000; omega
              refine ⟨i + 1, ⟨by omega, hall'⟩, by omega, ⟨some_iv (wrap_id _ (by omega) (by omega)), rfl, trivial⟩, (by repeat' (first | exact trivial | exact rfl | refine And.intro ?_ ?_)), ?_, (by repeat' (first | exact trivial | exact rfl | refine And.intro ?_ ?_))⟩
              refine ⟨?_, ?_, ?_, trivial⟩
              · rw [hst]; exact congrArg (fun x => some (Ent.cells x)) hset
              · rw [hst]; rw [hsg]; rfl
              · rw [hst]; exact congrArg (fun x => some (Ent.arr 1 x)) (clRow_app s.cs (s.c a))

            · have hgx : s.g a.loc = [] := by unfold CS.g; rw [hx]; rfl
              have hJ := JoinN_c (s.c a) (by omega)
              rw [hgx] at hsg
              refine QuietP.of (QJ.call hJ (fun _ _ => rfl) rfl rfl) ?_
              (repeat' (refine And.intro ?_ ?_))
              (repeat (first | refine Spl.t rfl ?_ | refine Spl.f rfl ?_))
              all_goals first | exact trivial | skip
              refine PutP.by kInt s.sg (joinL [] (s.c a)) (e := clD) ?_
              (repeat (first | refine Spl.t rfl ?_ | refine Spl.f rfl ?_))
              refine Req.of ?_ ?_
              · exact ⟨t0, t1⟩
              refine Req.of ?_ ?_
              · show 0 + a.t.toNat * 1 + 1 ≤ 16
                omega
              (repeat (first | refine Spl.t rfl ?_ | refine Spl.f rfl ?_))
              refine Req.of ⟨by rw [List.length_map]; exact hrl, ?_⟩ ?_
              · show i + 1 ≤ 1000000000; omega
              refine ⟨i + 1, ⟨by omega, hall'⟩, by omega, ⟨some_iv (wrap_id _ (by omega) (by omega)), rfl, trivial⟩, (by repeat' (first | exact trivial | exact rfl | refine And.intro ?_ ?_)), ?_, (by repeat' (first | exact trivial | exact rfl | refine And.intro ?_ ?_))⟩
              refine ⟨?_, ?_, ?_, trivial⟩
              · rw [hst]; exact congrArg (fun x => some (Ent.cells x)) hset
              · rw [hst]; rw [hsg]; rfl
              · rw [hst]; exact congrArg (fun x => some (Ent.arr 1 x)) (clRow_app s.cs (s.c a))

          · have h4 := of_decide_eq_false h4
            have hsg : (s.step a).sg = s.sg := if_neg h4
            (repeat (first | refine Spl.t rfl ?_ | refine Spl.f rfl ?_))
            refine Req.of ?_ ?_
            · exact ⟨t0, t1⟩
            refine Req.of ?_ ?_
            · show 0 + a.t.toNat * 1 + 1 ≤ 16
              omega
            (repeat (first | refine Spl.t rfl ?_ | refine Spl.f rfl ?_))
            refine Req.of ⟨by rw [List.length_map]; exact hrl, ?_⟩ ?_
            · show i + 1 ≤ 1000000000; omega
            refine ⟨i + 1, ⟨by omega, hall'⟩, by omega, ⟨some_iv (wrap_id _ (by omega) (by omega)), rfl, trivial⟩, (by repeat' (first | exact trivial | exact rfl | refine And.intro ?_ ?_)), ?_, (by repeat' (first | exact trivial | exact rfl | refine And.intro ?_ ?_))⟩
            refine ⟨?_, ?_, ?_, trivial⟩
            · rw [hst]; exact congrArg (fun x => some (Ent.cells x)) hset
            · rw [hst]; rw [hsg]; rfl
            · rw [hst]; exact congrArg (fun x => some (Ent.arr 1 x)) (clRow_app s.cs (s.c a))

      · have h3 := of_decide_eq_false h3
        have hc1 : s.c1 a = s.c0 a := if_neg h3
        rw [hc1] at hT
        refine OpJ.callV hT (fun _ _ => rfl) rfl rfl rfl ?_
        (repeat (first | refine Spl.t rfl ?_ | refine Spl.f rfl ?_))
        refine Spl.of (fun h4 => ?_) (fun h4 => ?_)
        · have h4 := of_decide_eq_true h4
          have hsg : (s.step a).sg = aset a.loc (joinL (s.g a.loc) (s.c a)) s.sg := if_pos h4
          (repeat (first | refine Spl.t rfl ?_ | refine Spl.f rfl ?_))
          refine RegP.mix 9 rfl (by decide +kernel) ?_
          refine LookP.by kInt s.sg (fun x hx => ?_) (fun hx => ?_)
          · have hgx : s.g a.loc = x := by unfold CS.g; rw [hx]; rfl
            rw [hgx] at hJ hsg
            refine QuietP.of (QJ.call hJ (fun _ _ => rfl) rfl rfl) ?_
            (repeat' (refine And.intro ?_ ?_))
            (repeat (first | refine Spl.t rfl ?_ | refine Spl.f rfl ?_))
            all_goals first | exact trivial | skip
            refine PutP.by kInt s.sg (joinL x (s.c a)) (e := clD) ?_
            (repeat (first | refine Spl.t rfl ?_ | refine Spl.f rfl ?_))
            refine Req.of ?_ ?_
            · exact ⟨t0, t1⟩
            refine Req.of ?_ ?_
            · show 0 + a.t.toNat * 1 + 1 ≤ 16
              omega
            (repeat (first | refine Spl.t rfl ?_ | refine Spl.f rfl ?_))
            refine Req.of ⟨by rw [List.length_map]; exact hrl, ?_⟩ ?_
            · show i + 1 ≤ 1000000000; omega
            refine ⟨i + 1, ⟨by omega, hall'⟩, by omega, ⟨some_iv (wrap_id _ (by omega) (by omega)), rfl, trivial⟩, (by repeat' (first | exact trivial | exact rfl | refine And.intro ?_ ?_)), ?_, (by repeat' (first | exact trivial | exact rfl | refine And.intro ?_ ?_))⟩
            refine ⟨?_, ?_, ?_, trivial⟩
            · rw [hst]; exact congrArg (fun x => some (Ent.cells x)) hset
            · rw [hst]; rw [hsg]; rfl
            · rw [hst]; exact congrArg (fun x => some (Ent.arr 1 x)) (clRow_app s.cs (s.c a))

          · have hgx : s.g a.loc = [] := by unfold CS.g; rw [hx]; rfl
            have hJ := JoinN_c (s.c a) (by omega)
            rw [hgx] at hsg
            refine QuietP.of (QJ.call hJ (fun _ _ => rfl) rfl rfl) ?_
            (repeat' (refine And.intro ?_ ?_))
            (repeat (first | refine Spl.t rfl ?_ | refine Spl.f rfl ?_))
            all_goals first | exact trivial | skip
            refine PutP.by kInt s.sg (joinL [] (s.c a)) (e := clD) ?_
            (repeat (first | refine Spl.t rfl ?_ | refine Spl.f rfl ?_))
            refine Req.of ?_ ?_
            · exact ⟨t0, t1⟩
            refine Req.of ?_ ?_
            · show 0 + a.t.toNat * 1 + 1 ≤ 16
              omega
            (repeat (first | refine Spl.t rfl ?_ | refine Spl.f rfl ?_))
            refine Req.of ⟨by rw [List.length_map]; exact hrl, ?_⟩ ?_
            · show i + 1 ≤ 1000000000; omega
            refine ⟨i + 1, ⟨by omega, hall'⟩, by omega, ⟨some_iv (wrap_id _ (by omega) (by omega)), rfl, trivial⟩, (by repeat' (first | exact trivial | exact rfl | refine And.intro ?_ ?_)), ?_, (by repeat' (first | exact trivial | exact rfl | refine And.intro ?_ ?_))⟩
            refine ⟨?_, ?_, ?_, trivial⟩
            · rw [hst]; exact congrArg (fun x => some (Ent.cells x)) hset
            · rw [hst]; rw [hsg]; rfl
            · rw [hst]; exact congrArg (fun x => some (Ent.arr 1 x)) (clRow_app s.cs (s.c a))

        · have h4 := of_decide_eq_false h4
          have hsg : (s.step a).sg = s.sg := if_neg h4
          (repeat (first | refine Spl.t rfl ?_ | refine Spl.f rfl ?_))
          refine Req.of ?_ ?_
          · exact ⟨t0, t1⟩
          refine Req.of ?_ ?_
          · show 0 + a.t.toNat * 1 + 1 ≤ 16
            omega
          (repeat (first | refine Spl.t rfl ?_ | refine Spl.f rfl ?_))
          refine Req.of ⟨by rw [List.length_map]; exact hrl, ?_⟩ ?_
          · show i + 1 ≤ 1000000000; omega
          refine ⟨i + 1, ⟨by omega, hall'⟩, by omega, ⟨some_iv (wrap_id _ (by omega) (by omega)), rfl, trivial⟩, (by repeat' (first | exact trivial | exact rfl | refine And.intro ?_ ?_)), ?_, (by repeat' (first | exact trivial | exact rfl | refine And.intro ?_ ?_))⟩
          refine ⟨?_, ?_, ?_, trivial⟩
          · rw [hst]; exact congrArg (fun x => some (Ent.cells x)) hset
          · rw [hst]; rw [hsg]; rfl
          · rw [hst]; exact congrArg (fun x => some (Ent.arr 1 x)) (clRow_app s.cs (s.c a))

  · have h1 := of_decide_eq_false h1
    simp at h1
    obtain rfl : i = l.length := by omega
    rw [List.take_length] at hall hrl ⊢
    (repeat (first | refine Spl.t rfl ?_ | refine Spl.f rfl ?_))
    refine FinP.pubTup 6 0 rfl rfl ?_ ?_ ?_
    · rw [List.length_map, hrl]; exact Nat.le_refl _
    · omega
    refine FinP.open rfl ?_
    rw [clksv, if_pos ((allMay_iff l).2 hall), List.take_of_length_le (by rw [List.length_map, hrl]; exact Nat.le_refl _)]
    rfl
end Go.Proofs.E
end
section
open Go Go.Gv
attribute [local irreducible] Go.Gv.WJ Go.Gv.OpJ Go.Gv.QJ Go.Gv.Spl Go.Gv.Req Go.Gv.IdxP Go.Gv.RegP Go.Gv.FinP Go.Gv.CellP Go.Gv.CellsP Go.Gv.ArrP Go.Gv.ArrsP Go.Gv.DropP Go.Gv.ByteP Go.Gv.StoreP
set_option maxRecDepth 100000
namespace Go.Proofs.E
theorem len_acD (l : List TA) : ((l.map taD).length : Int) = (l.length : Nat) := by rw [List.length_map]
def inP (l : List TA) (loc : Int) (j : Nat) : Bool := accA (l.getD j AC0) && decide ((l.getD j AC0).loc = loc)
def accs (l : List TA) (k : Nat) (loc : Int) : List Nat := (List.range k).filter (inP l loc)
theorem accs_succ (l : List TA) (k : Nat) (loc : Int) : accs l (k + 1) loc = accs l k loc ++ (if inP l loc k = true then [k] else []) := by
  unfold accs
  rw [List.range_succ, List.filter_append]
  congr 1
  by_cases h : inP l loc k = true
  · rw [if_pos h]; simp [h]
  · rw [if_neg h]; simp [h]
theorem mem_accs {l : List TA} {k j : Nat} {loc : Int} : j ∈ accs l k loc ↔ j < k ∧ inP l loc j = true := by
  unfold accs; rw [List.mem_filter, List.mem_range]
theorem accs_lt (l : List TA) (k : Nat) (loc : Int) : (accs l k loc).Pairwise (· < ·) := List.Pairwise.filter _ List.pairwise_lt_range
theorem race_in {l : List TA} {i k : Nat} (h : raceB l i k = true) : inP l (l.getD k AC0).loc i = true ∧ accA (l.getD k AC0) = true := by
  unfold raceB clashA at h
  rw [Bool.and_eq_true, Bool.and_eq_true, Bool.and_eq_true, Bool.and_eq_true] at h
  obtain ⟨⟨⟨⟨h1, h2⟩, h3⟩, _⟩, _⟩ := h
  exact ⟨by unfold inP; rw [h1, h3]; rfl, h2⟩
theorem race_no {l : List TA} {k : Nat} (h : accA (l.getD k AC0) = false) (i : Nat) : raceB l i k = false := by
  cases e : raceB l i k with
  | false => rfl
  | true => rw [(race_in e).2] at h; cases h
theorem race_is {l : List TA} {i k : Nat} (h : inP l (l.getD k AC0).loc i = true) (h2 : accA (l.getD k AC0) = true) : raceB l i k = ((wrA (l.getD k AC0) || wrA (l.getD i AC0)) && !aheadB l i k) := by
  unfold inP at h
  rw [Bool.and_eq_true] at h
  unfold raceB clashA
  rw [h.1, h.2, h2, Bool.or_comm]; rfl
theorem first_none {l : List TA} {k : Nat} (h : ∀ p i : Nat, (accs l k (l.getD k AC0).loc)[p]? = some i → raceB l i k = false) : firstJ l k k = none :=
  (firstI_none l k k).2 fun i hi => by
    cases e : raceB l i k with
    | false => rfl
    | true =>
      obtain ⟨p, hp, e2⟩ := List.getElem_of_mem (mem_accs.2 ⟨hi, (race_in e).1⟩)
      rw [← e, h p i (by rw [List.getElem?_eq_getElem hp, e2])]
theorem first_some {l : List TA} {k q i : Nat} (hq : (accs l k (l.getD k AC0).loc)[q]? = some i) (hr : raceB l i k = true) (h : ∀ p j : Nat, p < q → (accs l k (l.getD k AC0).loc)[p]? = some j → raceB l j k = false) : firstJ l k k = some i := by
  have hik := (mem_accs.1 (List.mem_of_getElem? hq)).1
  refine firstI_some (fun j hj => ?_) hr k hik
  cases e : raceB l j k with
  | false => rfl
  | true =>
    obtain ⟨p, hp, e2⟩ := List.getElem_of_mem (mem_accs.2 ⟨(by omega : j < k), (race_in e).1⟩)
    have hp2 : (accs l k (l.getD k AC0).loc)[p]? = some j := by rw [List.getElem?_eq_getElem hp, e2]
    have hpq : p < q := by
      rcases Nat.lt_or_ge p q with h | h
      · exact h
      · exfalso
        obtain ⟨hq1, hq2⟩ := List.getElem?_eq_some_iff.1 hq
        by_cases e3 : q = p
        · subst e3; rw [e2] at hq2; omega
        · have := List.pairwise_iff_getElem.1 (accs_lt l k (l.getD k AC0).loc) q p hq1 hp (by omega)
          rw [e2, hq2] at this; omega
    rw [← e, h p j hpq hp2]
def dn (j : Nat) : List D := [.v (.int .i64 (j : Nat))]
/-- The rows of the places, as far as acts were gone through. -/
def MInv (l : List TA) (k : Nat) (R : List (Int × RW)) : Prop := ∀ loc, match alook loc R with
  | some r => r.xs = (accs l k loc).map dn
  | none => accs l k loc = []
theorem MInv.nil (l : List TA) : MInv l 0 [] := fun _ => rfl
theorem MInv.skip {l : List TA} {k : Nat} {R : List (Int × RW)} (h : MInv l k R) (ha : accA (l.getD k AC0) = false) : MInv l (k + 1) R := fun loc => by
  have e : accs l (k + 1) loc = accs l k loc := by
    rw [accs_succ, if_neg (by unfold inP; rw [ha]; simp), List.append_nil]
  rw [e]; exact h loc
theorem MInv.put {l : List TA} {k : Nat} {R : List (Int × RW)} (h : MInv l k R) {a : TA} (hk : l.getD k AC0 = a) (ha : accA a = true) {r : RW} (hr : r.xs = (accs l (k + 1) a.loc).map dn) : MInv l (k + 1) (aset a.loc r R) := fun loc => by
  rw [alook_aset]
  by_cases e : loc = a.loc
  · rw [if_pos e]; subst e; exact hr
  · rw [if_neg e]
    have e2 : accs l (k + 1) loc = accs l k loc := by
      rw [accs_succ, if_neg (by unfold inP; rw [hk]; simp; exact fun _ h => e h.symm), List.append_nil]
    rw [e2]; exact h loc
theorem accs_put {l : List TA} {k : Nat} {a : TA} (hk : l.getD k AC0 = a) (ha : accA a = true) : (accs l (k + 1) a.loc).map dn = (accs l k a.loc).map dn ++ [dn k] := by
  rw [accs_succ, if_pos (by unfold inP; rw [hk, ha]; simp), List.map_append]; rfl
theorem accs_len (l : List TA) (k : Nat) (loc : Int) : (accs l k loc).length ≤ k := by
  have := List.length_filter_le (inP l loc) (List.range k)
  rw [List.length_range] at this
  exact this
end Go.Proofs.E
end
section
open Go Go.Gv
attribute [local irreducible] Go.Gv.WJ Go.Gv.OpJ Go.Gv.QJ Go.Gv.Spl Go.Gv.Req Go.Gv.IdxP Go.Gv.RegP Go.Gv.FinP Go.Gv.CellP Go.Gv.CellsP Go.Gv.ArrP Go.Gv.ArrsP Go.Gv.DropP Go.Gv.ByteP Go.Gv.StoreP
set_option maxRecDepth 100000
namespace Go.Proofs.E
attribute [local irreducible] elems
structure QE where
  tk : Int
  slot : Int
  c : CALL
structure ST where
  h : Int
  q : List QE
  sealed : Bool
structure BD where
  st : List ST
  room : Int
  tk : Int
  up : Bool
  site : Int
  v : VS
  cl : Bool
  sl : Option (List (Int × RS))
  gone : Bool
  tr : List TA
abbrev qeD (e : QE) : List D := [.v (.int .i64 e.tk), .v (.int .i64 e.slot), .v (.int .i64 e.c.k), .v (.int .i64 e.c.at_), .v (.int .i32 e.c.ch), .v (.int .i64 e.c.o.k), .v (.int .i64 e.c.o.i.c), .v (.int .i64 e.c.o.i.s), .v (.int .i64 e.c.o.a.c), .v (.int .i64 e.c.o.a.s), .v (.int .i32 e.c.o.ch), .v (.int .i64 e.c.a.c), .v (.int .i64 e.c.a.s)]
abbrev stD (x : ST) : List D := [.v (.int .i64 x.h), .sl 13 (x.q.map qeD), .v (.bool x.sealed)]
abbrev stAv (x : ST) : AV := .agg [iv x.h, .d (.sl 13 (x.q.map qeD)), bv x.sealed]
abbrev rsD (x : RS) : List D := [.v (.int .i64 x.e), .v (.int .i64 x.n), .v (.string ⟨⟨x.t⟩⟩)]
def slD : Option (List (Int × RS)) → D
  | none => .v (.map none)
  | some m => .mp true (m.map fun p => kInt.val p.1) (m.map fun p => rsD p.2)
abbrev bcs' (b : BD) (stx slx trx : AV) : List AV := [stx, iv b.room, iv b.tk, bv b.up, iv b.site, .d b.v.s.t.d, .d b.v.s.p.d, iv b.v.s.n, .d (.sl 6 (b.v.R.map opD)), iv (b.v.l.length : Nat), iv (sumV b.v.l).n, cx (sumV b.v.l).a (sumV b.v.l).b, cx (sumV b.v.l).c (sumV b.v.l).d, bv b.cl, slx, bv b.gone, trx]
abbrev bcs (b : BD) : List AV := bcs' b (.d (.sl 3 (b.st.map stD))) (.d (slD b.sl)) (.d (.sl 3 (b.tr.map taD)))
abbrev bdv (b : BD) : AV := .agg (bcs b)
theorem BHas_c (b : BD) (s : Int) : Cv 58 [bdv b, iv s] (bv (decide (0 ≤ s) && decide (s < (b.st.length : Nat)))) := by
  have hln : ((b.st.map stD).length : Int) = (b.st.length : Nat) := by rw [List.length_map]
  rw [← hln]
  refine Ct.of_vc Tryz.f58 Tryz.func58 rfl rfl fun w H B g0 => ?_
  refine Spl.of (fun h1 => ?_) (fun h1 => ?_)
  · (repeat (first | refine Spl.t rfl ?_ | refine Spl.f rfl ?_))
    exact FinP.open rfl (congrArg bv (by rw [h1]; rfl))
  · (repeat (first | refine Spl.t rfl ?_ | refine Spl.f rfl ?_))
    exact FinP.open rfl (congrArg bv (by rw [h1]; rfl))
theorem get_stD {l : List ST} {s : Nat} {x : ST} (h : l[s]? = some x) : (l.map stD)[s]? = some (stD x) := by rw [List.getElem?_map, h]; rfl
def holdB (b : BD) (s : Int) : Int := if 0 ≤ s then (match b.st[s.toNat]? with
  | some x => x.h
  | none => -1) else -1
theorem Holder_c (b : BD) (s : Int) : Cv 12 [bdv b, iv s] (iv (holdB b s)) := by
  have hh := BHas_c b s
  refine Ct.of_vc Tryz.f12 Tryz.func12 rfl rfl fun w H B g0 => ?_
  refine OpJ.callV hh (fun _ _ => rfl) rfl rfl rfl ?_
  (repeat (first | refine Spl.t rfl ?_ | refine Spl.f rfl ?_))
  refine Spl.of (fun h1 => ?_) (fun h1 => ?_)
  · (repeat (first | refine Spl.t rfl ?_ | refine Spl.f rfl ?_))
    refine FinP.open rfl (congrArg iv ?_)
    unfold holdB
    by_cases h0 : 0 ≤ s
    · rw [if_pos h0]
      simp [h0] at h1
      rw [List.getElem?_eq_none (by omega)]
    · rw [if_neg h0]
  · simp at h1
    obtain ⟨x, hx⟩ : ∃ x, b.st[s.toNat]? = some x := ⟨_, List.getElem?_eq_getElem (by omega)⟩
    (repeat (first | refine Spl.t rfl ?_ | refine Spl.f rfl ?_))
    refine IdxP.of (stD x) h1.1 (get_stD hx) ?_
    refine FinP.open rfl (congrArg iv ?_)
    unfold holdB
    rw [if_pos h1.1, hx]
theorem CloneA_c (l : List TA) (hl : l.length ≤ 1000000) : Cv 65 [.d (.sl 3 (l.map taD))] (.d (.sl 3 (l.map taD))) := by
  refine Ct.of_vc Tryz.f65 Tryz.func65 rfl rfl fun w H B g0 => ?_
  refine O.eqNil rfl rfl rfl rfl fun b hb => ?_
  cases b with
  | true =>
    have h0 := hb rfl
    (repeat (first | refine Spl.t rfl ?_ | refine Spl.f rfl ?_))
    rw [h0]
    exact FinP.view (fun _ _ _ h => nil_sl 3 h) (FinP.open rfl rfl)
  | false =>
    (repeat (first | refine Spl.t rfl ?_ | refine Spl.f rfl ?_))
    refine OpJ.qu (QJ.appG rfl (.full _ _) (FlatQ.data rfl rfl) rfl (by show 0 + _ ≤ _; rw [List.length_map]; omega)) rfl ?_
    exact FinP.open rfl rfl
theorem Trace_c (b : BD) (hl : b.tr.length ≤ 1000000) : Cv 23 [bdv b] (.d (.sl 3 (b.tr.map taD))) := by
  refine Ct.of_vc Tryz.f23 Tryz.func23 rfl rfl fun w H B g0 => ?_
  refine OpJ.callV (CloneA_c b.tr hl) (fun _ _ => rfl) rfl rfl rfl ?_
  exact FinP.open rfl rfl
/-! ### What was done -/
abbrev dD (p : Int × Int) : List D := [.v (.int .i64 p.1), .v (.int .i64 p.2)]
def actsT (t : Int) (ds : List (Int × Int)) : List TA := ds.map fun p => ⟨t, p.1, p.2⟩
def BD.did (b : BD) (t : Int) (ds : List (Int × Int)) : BD := { b with tr := b.tr ++ actsT t ds }
def trC (b : BD) (t : Int) (ds : List (Int × Int)) : Nat → AV
  | 0 => .full 3 (b.tr.map taD)
  | j + 1 => .arr 34 3 (b.tr.length + (j + 1))
def trS (b : BD) (t : Int) (ds : List (Int × Int)) : Nat → Sg
  | 0 => []
  | j + 1 => [(34, .arr 3 ((b.tr ++ actsT t (ds.take (j + 1))).map taD))]
theorem trRow (l : List TA) : List.drop (Int.toNat 0) (List.take ((l.map taD).length : Int).toNat (l.map taD)) = l.map taD := by
  rw [Int.toNat_natCast, List.take_length]; rfl
theorem did_c (b : BD) (t : Int) (ds : List (Int × Int)) (hd : ds.length ≤ 1000) (h0 : 0 < ds.length) (hl : b.tr.length ≤ 1000000) : Cv 60 [bdv b, iv t, .full 2 (ds.map dD)] (bdv (b.did t ds)) := by
  refine Ct.of_wv Tryz.f60 Tryz.func60 rfl rfl fun w H B g0 => ?_
  (try refine WJ.cut ?_)
  (first | refine Sq.go ?_ | refine vL_nil (Sq.go ?_) | skip)
  (try refine WJ.cut ?_)
  (first | refine Sq.go ?_ | refine vL_nil (Sq.go ?_) | skip)
  (try refine WJ.cut ?_)
  refine Req.of ⟨Int.le_refl _, by omega, Int.le_refl _, rfl⟩ ?_
  (first | refine Sq.go ?_ | refine vL_nil (Sq.go ?_) | skip)
  (try refine WJ.cut ?_)
  (first | refine Sq.go ?_ | refine vL_nil (Sq.go ?_) | skip)
  (try refine WJ.cut ?_)
  refine WJ.loopK (V := Nat) (fun j => [(21, iv j)]) (fun j => (3, .cells (bcs' b (.d (.sl 3 (b.st.map stD))) (.d (slD b.sl)) (trC b t ds j))) :: trS b t ds j) [3, 34] (fun j => ds.length - j) (fun j => j ≤ ds.length) 0 (Nat.zero_le _) (by repeat' (first | exact trivial | exact rfl | refine And.intro ?_ ?_)) ⟨congrArg (fun x => some (Ent.cells (bcs' b (.d (.sl 3 (b.st.map stD))) (.d (slD b.sl)) (.full 3 x)))) (trRow b.tr), trivial⟩ ?_
  intro j hj
  refine Spl.of (fun h1 => ?_) (fun h1 => ?_)
  · have hlt : j < ds.length := by have := of_decide_eq_true h1; simp at this; omega
    obtain ⟨p, hp⟩ : ∃ p, ds[j]? = some p := ⟨_, List.getElem?_eq_getElem hlt⟩
    have hsn := take_snoc hp
    have hrow : (b.tr ++ actsT t (ds.take j)).map taD ++ [taD ⟨t, p.1, p.2⟩] = (b.tr ++ actsT t (ds.take (j + 1))).map taD := by
      rw [hsn]; simp [actsT]
    have hget : (ds.map dD)[j]? = some (dD p) := by rw [List.getElem?_map, hp]; rfl
    cases j with
    | zero =>
      (repeat (first | refine Spl.t rfl ?_ | refine Spl.f rfl ?_))
      refine IdxP.of (dD p) (by omega) (by rw [Int.toNat_natCast]; exact hget) ?_
      refine O.appF rfl rfl (.full _ _) rfl rfl rfl rfl (by show _ + 1 ≤ _; rw [List.length_map]; omega) (.inl (List.cons_ne_nil _ _)) ?_
      (repeat (first | refine Spl.t rfl ?_ | refine Spl.f rfl ?_))
      refine ⟨1, by omega, by omega, ⟨some_iv (wrap_id _ (by omega) (by omega)), trivial⟩, (by repeat' (first | exact trivial | exact rfl | refine And.intro ?_ ?_)), ⟨?_, ?_, trivial⟩, (by repeat' (first | exact trivial | exact rfl | refine And.intro ?_ ?_))⟩
      · exact congrArg (fun n => some (Ent.cells (bcs' b (.d (.sl 3 (b.st.map stD))) (.d (slD b.sl)) (.arr 34 3 n)))) (by show (b.tr.map taD).length + 1 = _; rw [List.length_map])
      · refine congrArg (fun x => some (Ent.arr 3 x)) ?_
        rw [← hrow]
        simp [actsT]; rfl
    | succ j =>
      (repeat (first | refine Spl.t rfl ?_ | refine Spl.f rfl ?_))
      refine IdxP.of (dD p) (by omega) (by rw [Int.toNat_natCast]; exact hget) ?_
      refine Req.of ⟨?_, ?_⟩ ?_
      · simp [actsT]; omega
      · show b.tr.length + (j + 1) + 1 ≤ 1000000000; omega
      refine ⟨j + 1 + 1, by omega, by omega, ⟨some_iv (wrap_id _ (by omega) (by omega)), trivial⟩, (by repeat' (first | exact trivial | exact rfl | refine And.intro ?_ ?_)), ⟨rfl, congrArg (fun x => some (Ent.arr 3 x)) hrow, trivial⟩, (by repeat' (first | exact trivial | exact rfl | refine And.intro ?_ ?_))⟩
  · have h1 := of_decide_eq_false h1
    simp at h1
    obtain rfl : j = ds.length := by omega
    obtain ⟨n, hn⟩ : ∃ n, ds.length = n + 1 := ⟨ds.length - 1, by omega⟩
    rw [hn]
    have e : ((b.tr ++ actsT t (ds.take (n + 1))).map taD).take (b.tr.length + (n + 1)) = (b.tr ++ actsT t ds).map taD := by
      rw [← hn, List.take_length, List.take_of_length_le (by simp [actsT])]
    (repeat (first | refine Spl.t rfl ?_ | refine Spl.f rfl ?_))
    (first | refine Sq.go ?_ | refine vL_nil (Sq.go ?_) | skip)
    refine WJ.shift (SJ.pubCell 34 3 16 (k := 3) (n := b.tr.length + (n + 1)) (xs := (b.tr ++ actsT t (ds.take (n + 1))).map taD) rfl rfl rfl (by rw [← hn, List.take_length]; simp [actsT]) (by omega)) ?_
    rw [e]
    (try refine vc_sound _ _ _ _ ?_)
    (repeat (first | refine Spl.t rfl ?_ | refine Spl.f rfl ?_))
    exact FinP.open rfl rfl
end Go.Proofs.E
end
section
open Go Go.Gv
attribute [local irreducible] Go.Gv.WJ Go.Gv.OpJ Go.Gv.QJ Go.Gv.Spl Go.Gv.Req Go.Gv.IdxP Go.Gv.RegP Go.Gv.FinP Go.Gv.CellP Go.Gv.CellsP Go.Gv.ArrP Go.Gv.ArrsP Go.Gv.DropP Go.Gv.ByteP Go.Gv.StoreP
set_option maxRecDepth 100000
namespace Go.Proofs.E
attribute [local irreducible] elems
theorem CloneS_c (l : List ST) (hl : l.length ≤ 1000000) (h0 : 0 < l.length) : Ct tab Tryz.prog 126 [.d (.sl 3 (l.map stD))] [] (fun q σ' => q = .arr 7 3 l.length ∧ σ' = [(7, .arr 3 (l.map stD))]) := by
  refine Ct.of_vc Tryz.f126 Tryz.func126 rfl rfl fun w H B g0 => ?_
  refine O.eqNil rfl rfl rfl rfl fun b hb => ?_
  cases b with
  | true =>
    have h1 := congrArg List.length (hb rfl)
    rw [List.length_map] at h1; rw [h1] at h0; exact absurd h0 (by decide)
  | false =>
    (repeat (first | refine Spl.t rfl ?_ | refine Spl.f rfl ?_))
    refine O.appF rfl rfl (.full _ _) rfl rfl rfl rfl (by show 0 + _ ≤ _; rw [List.length_map]; omega) (.inr rfl) ?_
    (repeat (first | refine Spl.t rfl ?_ | refine Spl.f rfl ?_))
    refine FinP.priv [(7, .arr 3 (l.map stD))] (Wk.cons rfl (Wk.nil _)) rfl ⟨?_, rfl⟩
    show AV.arr 7 3 (0 + _) = _
    rw [List.length_map, Nat.zero_add]
def BD.setS (b : BD) (s : Nat) (x : ST) : BD := { b with st := b.st.set s x }
theorem with_c (b : BD) (s : Nat) (x : ST) (hs : s < b.st.length) (hl : b.st.length ≤ 8) : Cv 59 [bdv b, iv s, stAv x] (bdv (b.setS s x)) := by
  obtain ⟨y, hy⟩ : ∃ y, b.st[s]? = some y := ⟨_, List.getElem?_eq_getElem hs⟩
  refine Ct.of_wv Tryz.f59 Tryz.func59 rfl rfl fun w H B g0 => ?_
  (try refine WJ.cut ?_)
  (first | refine Sq.go ?_ | refine vL_nil (Sq.go ?_) | skip)
  (try refine WJ.cut ?_)
  refine OpJ.call (CloneS_c b.st (by omega) (by omega)) (fun _ _ => rfl) rfl rfl (Wk.nil _) ?_
  rintro q σ' ⟨rfl, rfl⟩
  refine ⟨rfl, ?_⟩
  (repeat (first | refine Spl.t rfl ?_ | refine Spl.f rfl ?_))
  (first | refine Sq.go ?_ | refine vL_nil (Sq.go ?_) | skip)
  (try refine WJ.cut ?_)
  refine Req.of ⟨by omega, by omega⟩ ?_
  refine StoreP.of s 0 (stD y) (by show (s : Int).toNat * 3 = _; omega) (get_stD hy) (Nat.le_of_ble_eq_true rfl) rfl ?_
  (first | refine Sq.go ?_ | refine vL_nil (Sq.go ?_) | skip)
  refine WJ.shift (SJ.pubCell 7 3 0 (k := 3) (n := b.st.length) (xs := (b.st.map stD).set s (setL (stD y) 0 (stD x))) rfl rfl rfl (by simp) (by omega)) ?_
  have e : ((b.st.map stD).set s (setL (stD y) 0 (stD x))).take b.st.length = (b.st.set s x).map stD := by
    rw [List.take_of_length_le (by simp), List.map_set]; rfl
  rw [e]
  (try refine vc_sound _ _ _ _ ?_)
  (repeat (first | refine Spl.t rfl ?_ | refine Spl.f rfl ?_))
  exact FinP.open rfl rfl
theorem wrapS (c s : Int) (h0 : 0 ≤ s) (h1 : s ≤ 100000) (h2 : 0 ≤ c) (h3 : c ≤ 100000) : IntKind.i64.wrap (c + s) = c + s := wrap_id _ (by omega) (by omega)
theorem has_t {b : BD} {s : Nat} {x : ST} (hx : b.st[s]? = some x) : (decide (0 ≤ (s : Int)) && decide ((s : Int) < (b.st.length : Nat))) = true := by
  have := (List.getElem?_eq_some_iff.1 hx).1
  rw [decide_eq_true (by omega : 0 ≤ (s : Int)), decide_eq_true (by omega : (s : Int) < (b.st.length : Nat))]; rfl
theorem Lock_c (b : BD) (t : Int) (s : Nat) {x : ST} (hx : b.st[s]? = some x) (hl : b.st.length ≤ 8) (ht : b.tr.length ≤ 1000000) :
    Cv 13 [bdv b, iv t, iv s] (if x.h = -1 then .tup [bdv ((b.setS s { x with h := t }).did t [(2, 1000 + (s : Int))]), bv true] else .tup [bdv b, bv false]) := by
  have hh := BHas_c b s
  rw [has_t hx] at hh
  have hs := (List.getElem?_eq_some_iff.1 hx).1
  have hw := wrapS 1000 s (by omega) (by omega) (by omega) (by omega)
  have hwi := with_c b s { x with h := t } hs hl
  have hdi := did_c (b.setS s { x with h := t }) t [(2, IntKind.i64.wrap (1000 + (s : Int)))] (Nat.le_of_ble_eq_true rfl) (Nat.succ_pos _) ht
  refine Ct.of_vc Tryz.f13 Tryz.func13 rfl rfl fun w H B g0 => ?_
  refine OpJ.callV hh (fun _ _ => rfl) rfl rfl rfl ?_
  (repeat (first | refine Spl.t rfl ?_ | refine Spl.f rfl ?_))
  refine IdxP.of (stD x) (by omega) (by rw [Int.toNat_natCast]; exact get_stD hx) ?_
  (repeat (first | refine Spl.t rfl ?_ | refine Spl.f rfl ?_))
  refine Spl.of (fun h1 => ?_) (fun h1 => ?_)
  · have h1 : ¬ x.h = -1 := by simpa using h1
    rw [if_neg h1]
    (repeat (first | refine Spl.t rfl ?_ | refine Spl.f rfl ?_))
    exact FinP.open rfl rfl
  · have h1 : x.h = -1 := by simpa using h1
    rw [if_pos h1]
    (repeat (first | refine Spl.t rfl ?_ | refine Spl.f rfl ?_))
    refine IdxP.of (stD x) (by omega) (by rw [Int.toNat_natCast]; exact get_stD hx) ?_
    (repeat (first | refine Spl.t rfl ?_ | refine Spl.f rfl ?_))
    refine OpJ.callV hwi (fun _ _ => rfl) rfl rfl rfl ?_
    (repeat (first | refine Spl.t rfl ?_ | refine Spl.f rfl ?_))
    refine OpJ.callV hdi (fun _ _ => rfl) rfl rfl rfl ?_
    (repeat (first | refine Spl.t rfl ?_ | refine Spl.f rfl ?_))
    refine FinP.open rfl ?_
    (rw [hw]; first | done | rfl)
theorem Unlock_c (b : BD) (t : Int) (s : Nat) {x : ST} (hx : b.st[s]? = some x) (hl : b.st.length ≤ 8) (ht : b.tr.length ≤ 1000000) :
    Cv 14 [bdv b, iv t, iv s] (bdv ((b.setS s { x with h := -1 }).did t [(3, 1000 + (s : Int))])) := by
  have hh := BHas_c b s
  rw [has_t hx] at hh
  have hs := (List.getElem?_eq_some_iff.1 hx).1
  have hw := wrapS 1000 s (by omega) (by omega) (by omega) (by omega)
  have hwi := with_c b s { x with h := -1 } hs hl
  have hdi := did_c (b.setS s { x with h := -1 }) t [(3, IntKind.i64.wrap (1000 + (s : Int)))] (Nat.le_of_ble_eq_true rfl) (Nat.succ_pos _) ht
  refine Ct.of_vc Tryz.f14 Tryz.func14 rfl rfl fun w H B g0 => ?_
  refine OpJ.callV hh (fun _ _ => rfl) rfl rfl rfl ?_
  (repeat (first | refine Spl.t rfl ?_ | refine Spl.f rfl ?_))
  refine IdxP.of (stD x) (by omega) (by rw [Int.toNat_natCast]; exact get_stD hx) ?_
  (repeat (first | refine Spl.t rfl ?_ | refine Spl.f rfl ?_))
  refine OpJ.callV hwi (fun _ _ => rfl) rfl rfl rfl ?_
  (repeat (first | refine Spl.t rfl ?_ | refine Spl.f rfl ?_))
  refine OpJ.callV hdi (fun _ _ => rfl) rfl rfl rfl ?_
  (repeat (first | refine Spl.t rfl ?_ | refine Spl.f rfl ?_))
  refine FinP.open rfl ?_
  (rw [hw]; first | done | rfl)
theorem Seal_c (b : BD) (t : Int) (s : Nat) {x : ST} (hx : b.st[s]? = some x) (hl : b.st.length ≤ 8) (ht : b.tr.length ≤ 1000000) :
    Cv 17 [bdv b, iv t, iv s] (bdv ((b.setS s { x with sealed := true }).did t [(1, (s : Int))])) := by
  have hh := BHas_c b s
  rw [has_t hx] at hh
  have hs := (List.getElem?_eq_some_iff.1 hx).1
  have hwi := with_c b s { x with sealed := true } hs hl
  have hdi := did_c (b.setS s { x with sealed := true }) t [(1, (s : Int))] (Nat.le_of_ble_eq_true rfl) (Nat.succ_pos _) ht
  refine Ct.of_vc Tryz.f17 Tryz.func17 rfl rfl fun w H B g0 => ?_
  refine OpJ.callV hh (fun _ _ => rfl) rfl rfl rfl ?_
  (repeat (first | refine Spl.t rfl ?_ | refine Spl.f rfl ?_))
  refine IdxP.of (stD x) (by omega) (by rw [Int.toNat_natCast]; exact get_stD hx) ?_
  (repeat (first | refine Spl.t rfl ?_ | refine Spl.f rfl ?_))
  refine OpJ.callV hwi (fun _ _ => rfl) rfl rfl rfl ?_
  (repeat (first | refine Spl.t rfl ?_ | refine Spl.f rfl ?_))
  refine OpJ.callV hdi (fun _ _ => rfl) rfl rfl rfl ?_
  (repeat (first | refine Spl.t rfl ?_ | refine Spl.f rfl ?_))
  exact FinP.open rfl rfl
theorem Empty_c (b : BD) (t : Int) (s : Nat) {x : ST} (hx : b.st[s]? = some x) (ht : b.tr.length ≤ 1000000) :
    Cv 18 [bdv b, iv t, iv s] (.tup [bdv (b.did t [(0, (s : Int))]), bv (x.sealed && decide (x.q.length = 0))]) := by
  have hh := BHas_c b s
  rw [has_t hx] at hh
  have hdi := did_c b t [(0, (s : Int))] (Nat.le_of_ble_eq_true rfl) (Nat.succ_pos _) ht
  have hq : decide (((x.q.map qeD).length : Int) = 0) = decide (x.q.length = 0) := decide_eq_decide.2 (by rw [List.length_map]; omega)
  rw [← hq]
  refine Ct.of_vc Tryz.f18 Tryz.func18 rfl rfl fun w H B g0 => ?_
  refine OpJ.callV hh (fun _ _ => rfl) rfl rfl rfl ?_
  (repeat (first | refine Spl.t rfl ?_ | refine Spl.f rfl ?_))
  refine IdxP.of (stD x) (by omega) (by rw [Int.toNat_natCast]; exact get_stD hx) ?_
  (repeat (first | refine Spl.t rfl ?_ | refine Spl.f rfl ?_))
  refine RegP.mixS 16 [6] rfl (by decide +kernel) ?_
  refine QuietP.of (QJ.call hdi (fun _ _ => rfl) rfl rfl) ?_
  (repeat (first | refine Spl.t rfl ?_ | refine Spl.f rfl ?_))
  refine Spl.of (fun h1 => ?_) (fun h1 => ?_)
  · (repeat (first | refine Spl.t rfl ?_ | refine Spl.f rfl ?_))
    refine FinP.open rfl ?_
    rw [h1]; rfl
  · (repeat (first | refine Spl.t rfl ?_ | refine Spl.f rfl ?_))
    refine FinP.open rfl ?_
    rw [h1]; rfl
end Go.Proofs.E
end
section
open Go Go.Gv
attribute [local irreducible] Go.Gv.WJ Go.Gv.OpJ Go.Gv.QJ Go.Gv.Spl Go.Gv.Req Go.Gv.IdxP Go.Gv.RegP Go.Gv.FinP Go.Gv.CellP Go.Gv.CellsP Go.Gv.ArrP Go.Gv.ArrsP Go.Gv.DropP Go.Gv.ByteP Go.Gv.StoreP
set_option maxRecDepth 100000
namespace Go.Proofs.E
attribute [local irreducible] elems
abbrev qeAv (e : QE) : AV := .agg [iv e.tk, iv e.slot, iv e.c.k, iv e.c.at_, cv' e.c.ch, iv e.c.o.k, iv e.c.o.i.c, iv e.c.o.i.s, iv e.c.o.a.c, iv e.c.o.a.s, cv' e.c.o.ch, iv e.c.a.c, iv e.c.a.s]
def CALL0 : CALL := ⟨0, 0, 0, OP0, ⟨0, 0⟩⟩
def QE0 : QE := ⟨0, 0, CALL0⟩
theorem qeRow (l : List QE) (e : QE) : List.drop (Int.toNat 0) (List.take ((l.map qeD).length : Int).toNat (l.map qeD)) ++ [qeD e] = (l ++ [e]).map qeD := by
  rw [Int.toNat_natCast, List.take_length, List.map_append]; rfl
set_option maxHeartbeats 4000000 in
theorem Push_c (b : BD) (t : Int) (s : Nat) (k : Int) (c : CALL) {x : ST} (hx : b.st[s]? = some x) (hl : b.st.length ≤ 8) (ht : b.tr.length ≤ 900000) (hq : x.q.length ≤ 1000000) (hk0 : 0 ≤ b.tk) (hk1 : b.tk ≤ 1000000) :
    Cv 15 [bdv b, iv t, iv s, iv k, callv c] (if x.sealed = true then .tup [bdv (b.did t [(0, (s : Int))]), iv 9] else if b.room ≤ x.q.length then .tup [bdv (b.did t [(0, (s : Int))]), iv 8] else
      .tup [bdv (({ b.did t [(0, (s : Int))] with tk := b.tk + 1 }.setS s { x with q := x.q ++ [QE.mk b.tk k c] }).did t [(2, 2000), (3, 2000), (1, (s : Int))]), iv 0]) := by
  have hh := BHas_c b s
  rw [has_t hx] at hh
  have hs := (List.getElem?_eq_some_iff.1 hx).1
  have hd1 := did_c b t [(0, (s : Int))] (Nat.le_of_ble_eq_true rfl) (Nat.succ_pos _) (by omega)
  have hw : IntKind.i64.wrap (b.tk + 1) = b.tk + 1 := wrap_id _ (by omega) (by omega)
  have hwi : Cv 59 [bdv { b.did t [(0, (s : Int))] with tk := IntKind.i64.wrap (b.tk + 1) }, iv s, .agg [iv x.h, .d (.sl 13 (List.drop (Int.toNat 0) (List.take ((x.q.map qeD).length : Int).toNat (x.q.map qeD)) ++ [qeD (QE.mk b.tk k c)])), bv x.sealed]] (bdv ({ b.did t [(0, (s : Int))] with tk := IntKind.i64.wrap (b.tk + 1) }.setS s { x with q := x.q ++ [QE.mk b.tk k c] })) := by
    rw [qeRow]
    exact with_c { b.did t [(0, (s : Int))] with tk := IntKind.i64.wrap (b.tk + 1) } s { x with q := x.q ++ [QE.mk b.tk k c] } hs hl
  have hd2 := did_c ({ b.did t [(0, (s : Int))] with tk := IntKind.i64.wrap (b.tk + 1) }.setS s { x with q := x.q ++ [QE.mk b.tk k c] }) t [(2, 2000), (3, 2000), (1, (s : Int))] (Nat.le_of_ble_eq_true rfl) (Nat.succ_pos _) (by show (b.tr ++ actsT t [(0, (s : Int))]).length ≤ _; simp [actsT]; omega)
  have hql : ((x.q.map qeD).length : Int) = (x.q.length : Nat) := by rw [List.length_map]
  refine Ct.of_vc Tryz.f15 Tryz.func15 rfl rfl fun w H B g0 => ?_
  refine OpJ.callV hh (fun _ _ => rfl) rfl rfl rfl ?_
  (repeat (first | refine Spl.t rfl ?_ | refine Spl.f rfl ?_))
  refine OpJ.callV hd1 (fun _ _ => rfl) rfl rfl rfl ?_
  (repeat (first | refine Spl.t rfl ?_ | refine Spl.f rfl ?_))
  refine IdxP.of (stD x) (by omega) (by rw [Int.toNat_natCast]; exact get_stD hx) ?_
  (repeat (first | refine Spl.t rfl ?_ | refine Spl.f rfl ?_))
  refine Spl.of (fun h1 => ?_) (fun h1 => ?_)
  · rw [if_pos h1]
    (repeat (first | refine Spl.t rfl ?_ | refine Spl.f rfl ?_))
    exact FinP.open rfl rfl
  rw [h1, if_neg (by simp)]
  (repeat (first | refine Spl.t rfl ?_ | refine Spl.f rfl ?_))
  refine Spl.of (fun h2 => ?_) (fun h2 => ?_)
  · have h2 : b.room ≤ ((x.q.map qeD).length : Int) := of_decide_eq_true h2
    rw [if_pos (by omega)]
    (repeat (first | refine Spl.t rfl ?_ | refine Spl.f rfl ?_))
    exact FinP.open rfl rfl
  have h2 : ¬ b.room ≤ ((x.q.map qeD).length : Int) := of_decide_eq_false h2
  rw [if_neg (by omega)]
  (repeat (first | refine Spl.t rfl ?_ | refine Spl.f rfl ?_))
  refine RegP.mix 13 rfl (by decide +kernel) ?_
  refine Req.of ?_ ?_
  · exact ⟨Int.le_refl _, by omega, Int.le_refl _, rfl⟩
  refine QuietP.of (QJ.appG rfl (.full _ _) (FlatQ.data rfl rfl) rfl (by show _ + 1 ≤ _; rw [List.length_drop, List.length_take, List.length_map]; omega)) ?_
  (repeat (first | refine Spl.t rfl ?_ | refine Spl.f rfl ?_))
  rw [h1] at hwi hd2
  refine OpJ.callV hwi (fun _ _ => rfl) rfl rfl rfl ?_
  (repeat (first | refine Spl.t rfl ?_ | refine Spl.f rfl ?_))
  refine OpJ.callV hd2 (fun _ _ => rfl) rfl rfl rfl ?_
  (repeat (first | refine Spl.t rfl ?_ | refine Spl.f rfl ?_))
  refine FinP.open rfl ?_
  (rw [hw]; first | done | rfl)
def popE (x : ST) (tk : Int) : Option (QE × List QE) := match x.q with
  | [] => none
  | e :: r => if e.tk = tk then some (e, r) else none
set_option maxHeartbeats 4000000 in
theorem Pop_c (b : BD) (t : Int) (s : Nat) (tk : Int) {x : ST} (hx : b.st[s]? = some x) (hl : b.st.length ≤ 8) (ht : b.tr.length ≤ 900000) (hq : x.q.length ≤ 1000000) :
    Cv 16 [bdv b, iv t, iv s, iv tk] (match popE x tk with
      | none => .tup [bdv (b.did t [(0, (s : Int))]), qeAv QE0, bv false]
      | some (e, r) => .tup [bdv (((b.did t [(0, (s : Int))]).setS s { x with q := r }).did t [(1, (s : Int))]), qeAv e, bv true]) := by
  have hh := BHas_c b s
  rw [has_t hx] at hh
  have hs := (List.getElem?_eq_some_iff.1 hx).1
  have hd1 := did_c b t [(0, (s : Int))] (Nat.le_of_ble_eq_true rfl) (Nat.succ_pos _) (by omega)
  obtain ⟨xh, xq, xs⟩ := x
  unfold popE
  simp only at hq ⊢
  cases xq with
  | nil =>
    simp only
    refine Ct.of_vc Tryz.f16 Tryz.func16 rfl rfl fun w H B g0 => ?_
    refine OpJ.callV hh (fun _ _ => rfl) rfl rfl rfl ?_
    (repeat (first | refine Spl.t rfl ?_ | refine Spl.f rfl ?_))
    refine OpJ.callV hd1 (fun _ _ => rfl) rfl rfl rfl ?_
    (repeat (first | refine Spl.t rfl ?_ | refine Spl.f rfl ?_))
    refine IdxP.of (stD ⟨xh, [], xs⟩) (by omega) (by rw [Int.toNat_natCast]; exact get_stD hx) ?_
    (repeat (first | refine Spl.t rfl ?_ | refine Spl.f rfl ?_))
    exact FinP.open rfl rfl
  | cons e r =>
    simp only
    have hraw : List.drop (Int.toNat 1) (List.take ((((e :: r).map qeD).length : Nat) : Int).toNat ((e :: r).map qeD)) = r.map qeD := by
      rw [Int.toNat_natCast, List.take_length]; rfl
    have hwi : Cv 59 [bdv (b.did t [(0, (s : Int))]), iv s, .agg [iv xh, .d (.sl 13 (List.drop (Int.toNat 1) (List.take ((((e :: r).map qeD).length : Nat) : Int).toNat ((e :: r).map qeD)))), bv xs]] (bdv ((b.did t [(0, (s : Int))]).setS s ⟨xh, r, xs⟩)) := by
      rw [hraw]
      exact with_c (b.did t [(0, (s : Int))]) s ⟨xh, r, xs⟩ hs hl
    have hd2 := did_c ((b.did t [(0, (s : Int))]).setS s ⟨xh, r, xs⟩) t [(1, (s : Int))] (Nat.le_of_ble_eq_true rfl) (Nat.succ_pos _) (by show (b.tr ++ actsT t [(0, (s : Int))]).length ≤ _; simp [actsT]; omega)
    refine Ct.of_vc Tryz.f16 Tryz.func16 rfl rfl fun w H B g0 => ?_
    refine OpJ.callV hh (fun _ _ => rfl) rfl rfl rfl ?_
    (repeat (first | refine Spl.t rfl ?_ | refine Spl.f rfl ?_))
    refine OpJ.callV hd1 (fun _ _ => rfl) rfl rfl rfl ?_
    (repeat (first | refine Spl.t rfl ?_ | refine Spl.f rfl ?_))
    refine IdxP.of (stD ⟨xh, e :: r, xs⟩) (by omega) (by rw [Int.toNat_natCast]; exact get_stD hx) ?_
    (repeat (first | refine Spl.t rfl ?_ | refine Spl.f rfl ?_))
    refine IdxP.of (qeD e) (by omega) rfl ?_
    (repeat (first | refine Spl.t rfl ?_ | refine Spl.f rfl ?_))
    refine Spl.of (fun h1 => ?_) (fun h1 => ?_)
    · have h1 : ¬ e.tk = tk := by simpa using h1
      rw [if_neg h1]
      (repeat (first | refine Spl.t rfl ?_ | refine Spl.f rfl ?_))
      exact FinP.open rfl rfl
    · have h1 : e.tk = tk := by simpa using h1
      rw [if_pos h1]
      (repeat (first | refine Spl.t rfl ?_ | refine Spl.f rfl ?_))
      refine IdxP.of (qeD e) (by omega) rfl ?_
      (repeat (first | refine Spl.t rfl ?_ | refine Spl.f rfl ?_))
      refine Req.of ⟨by omega, by simp; omega, Int.le_refl _⟩ ?_
      (repeat (first | refine Spl.t rfl ?_ | refine Spl.f rfl ?_))
      refine RegP.mixS 13 [8, 9] rfl (by decide +kernel) ?_
      refine QuietP.of (QJ.call hwi (fun _ _ => rfl) rfl rfl) ?_
      refine QuietP.of (QJ.call hd2 (fun _ _ => rfl) rfl rfl) ?_
      (repeat (first | refine Spl.t rfl ?_ | refine Spl.f rfl ?_))
      exact FinP.open rfl rfl
end Go.Proofs.E
end
section
open Go Go.Gv
attribute [local irreducible] Go.Gv.WJ Go.Gv.OpJ Go.Gv.QJ Go.Gv.Spl Go.Gv.Req Go.Gv.IdxP Go.Gv.RegP Go.Gv.FinP Go.Gv.CellP Go.Gv.CellsP Go.Gv.ArrP Go.Gv.ArrsP Go.Gv.DropP Go.Gv.ByteP Go.Gv.StoreP
set_option maxRecDepth 100000
namespace Go.Proofs.E
attribute [local irreducible] elems
def slmc_ren : Go.Shelf.Ren := ⟨fun | 5 => 61 | 7 => 127 | n => n, fun | 23 => 42 | 20 => 20 | 4 => 4 | 25 => 3 | 3 => 73 | n => n, fun | n => n⟩
theorem slmc : Go.Proofs.SlLaysW.n5 Tryz.prog slmc_ren := {
  mixed := by kernel_rfl
  f5 := ⟨Tryz.f61.name, by kernel_rfl, Tryz.func61.trans (congrArg some (by kernel_rfl))⟩
  f7 := Tryz.func127.trans (congrArg some (by kernel_rfl))
  t4 := Tryz.underlying4
  a4 := Tryz.isAgg4
  z4 := Tryz.sizeOf4
  v4 := Tryz.zeroValue4
  t20 := Tryz.underlying20
  a20 := Tryz.isAgg20
  z20 := Tryz.sizeOf20
  v20 := Tryz.zeroValue20
  t23 := Tryz.underlying42
  a23 := Tryz.isAgg42
  z23 := Tryz.sizeOf42
  v23 := Tryz.zeroValue42 }
open Go.Proofs in
theorem CloneM_c (ag : Bool) (ks : List Value) (vs : List (List D)) : Ct tab Tryz.prog 61 [.d (.mp ag ks vs)] [] (fun q σ' => q = .mp 908 ∧ σ' = [(908, .mp ag ks vs)]) := by
  intro ro γ H w us hΛ hm hlen hr
  obtain ⟨u, rfl⟩ : ∃ u, us = [u] := by
    match us, hlen with
    | [u], _ => exact ⟨u, rfl⟩
  have hu := hr 0 _ _ rfl rfl
  cases rep_d hu with
  | mp _ _ _ b es clock us hM hl hl2 hk huu hh =>
    have hb := hm.hok.m _ _ _ hM
    have key : CallsIn (Fr none) 0 Tryz.prog 61 [Value.map (some b)].toArray w fun e w' => ∃ v r σ' γ' H', e = .returned v ∧ (r = .mp 908 ∧ σ' = [(908, .mp ag ks vs)]) ∧ Rep γ' H' r v ∧ (∀ i, Gv.look i σ' = none → γ i = γ' i) ∧ (∀ i e, Gv.look i ([] : Sg) = some e → e.var = true → γ i = γ' i) ∧ Mem w H (blks γ []) γ' H' σ' w' := by
      refine callsIn_wide.2 ((AnyW.maps_Clone slmc b es clock w hb).mono fun e w' ⟨he, hw⟩ => ?_)
      subst hw
      have hn := hm.new 908 (.mp ag ks vs) (.map es clock) 0 ⟨es, clock, us, by rw [upd_same]; exact World.alloc_heap_new w _, ⟨hl, hl2, hk, huu, hh⟩⟩ (fun _ _ h => by cases h)
      refine ⟨_, .mp 908, [(908, .mp ag ks vs)], upd γ 908 ⟨w.heap.size, 0, fun _ => False⟩, H, he, ⟨rfl, rfl⟩, ?_, fun i hi => ?_, fun i e h => by simp [Gv.look] at h, by rw [blks_nil]; exact hn⟩
      · have := Rep.mp (γ := upd γ 908 ⟨w.heap.size, 0, fun _ => False⟩) (H := H) 908
        rw [upd_same] at this
        exact this
      · rw [upd_other _ _ fun e => by subst e; rw [look_cons, if_pos rfl] at hi; cases hi]
    cases ro with
    | none => exact key
    | some l => exact CallsIn.inRound l key
end Go.Proofs.E
end
section
open Go Go.Gv
attribute [local irreducible] Go.Gv.WJ Go.Gv.OpJ Go.Gv.QJ Go.Gv.Spl Go.Gv.Req Go.Gv.IdxP Go.Gv.RegP Go.Gv.FinP Go.Gv.CellP Go.Gv.CellsP Go.Gv.ArrP Go.Gv.ArrsP Go.Gv.DropP Go.Gv.ByteP Go.Gv.StoreP
set_option maxRecDepth 100000
namespace Go.Proofs.E
attribute [local irreducible] elems PutP LookP
theorem CloneN_c : Cv 61 [.d (.v (.map none))] (.d (.v (.map none))) :=
  Ct.of_calls_scalars [.map none] rfl fun w _ => (Go.Proofs.AnyW.maps_Clone_nil slmc w).mono fun e w' ⟨h1, h2⟩ => ⟨h1, by subst h2; exact Keeps.refl _ _⟩
def BD.fill (b : BD) (k : Int) (x : RS) : BD := { b with sl := some (aset k x (b.sl.getD [])) }
def BD.slot (b : BD) (k : Int) : Option RS := alook k (b.sl.getD [])
set_option maxHeartbeats 4000000 in
theorem Fill_c (b : BD) (t k : Int) (x : RS) (ht : b.tr.length ≤ 900000) (hk0 : 0 ≤ k) (hk1 : k ≤ 100000) : Cv 19 [bdv b, iv t, iv k, rsv x] (bdv ((b.fill k x).did t [(1, 100 + k), (3, 3000 + k)])) := by
  have w1 := wrapS 100 k hk0 hk1 (by omega) (by omega)
  have w2 := wrapS 3000 k hk0 hk1 (by omega) (by omega)
  have hd := did_c (b.fill k x) t [(1, IntKind.i64.wrap (100 + k)), (3, IntKind.i64.wrap (3000 + k))] (Nat.le_of_ble_eq_true rfl) (Nat.succ_pos _) (by show b.tr.length ≤ _; omega)
  obtain ⟨bst, broom, btk, bup, bsite, bv', bcl, bsl, bgone, btr⟩ := b
  cases bsl with
  | none =>
    refine Ct.of_wv Tryz.f19 Tryz.func19 rfl rfl fun w H B g0 => ?_
    (try refine WJ.cut ?_)
    (first | refine Sq.go ?_ | refine vL_nil (Sq.go ?_) | skip)
    (try refine WJ.cut ?_)
    refine OpJ.callV CloneN_c (fun _ _ => rfl) rfl rfl rfl ?_
    (first | refine Sq.go ?_ | refine vL_nil (Sq.go ?_) | skip)
    (try refine WJ.cut ?_)
    (repeat (first | refine Spl.t rfl ?_ | refine Spl.f rfl ?_))
    (first | refine Sq.go ?_ | refine vL_nil (Sq.go ?_) | skip)
    (try refine WJ.cut ?_)
    refine PutP.by kInt [] x (e := rsD) ?_
    (first | refine Sq.go ?_ | refine vL_nil (Sq.go ?_) | skip)
    refine WJ.shift (SJ.pub 16 rfl rfl) ?_
    (try refine vc_sound _ _ _ _ ?_)
    (repeat (first | refine Spl.t rfl ?_ | refine Spl.f rfl ?_))
    refine OpJ.callV hd (fun _ _ => rfl) rfl rfl rfl ?_
    (repeat (first | refine Spl.t rfl ?_ | refine Spl.f rfl ?_))
    refine FinP.open rfl ?_
    (rw [w1, w2]; first | done | rfl)
  | some m =>
    refine Ct.of_wv Tryz.f19 Tryz.func19 rfl rfl fun w H B g0 => ?_
    (try refine WJ.cut ?_)
    (first | refine Sq.go ?_ | refine vL_nil (Sq.go ?_) | skip)
    (try refine WJ.cut ?_)
    refine OpJ.call (CloneM_c true (m.map fun p => kInt.val p.1) (m.map fun p => rsD p.2)) (fun _ _ => rfl) rfl rfl (Wk.nil _) ?_
    rintro q σ' ⟨rfl, rfl⟩
    refine ⟨rfl, ?_⟩
    (repeat (first | refine Spl.t rfl ?_ | refine Spl.f rfl ?_))
    (first | refine Sq.go ?_ | refine vL_nil (Sq.go ?_) | skip)
    (try refine WJ.cut ?_)
    (repeat (first | refine Spl.t rfl ?_ | refine Spl.f rfl ?_))
    (first | refine Sq.go ?_ | refine vL_nil (Sq.go ?_) | skip)
    (try refine WJ.cut ?_)
    refine PutP.by kInt m x (e := rsD) ?_
    (first | refine Sq.go ?_ | refine vL_nil (Sq.go ?_) | skip)
    refine WJ.shift (SJ.pub 908 rfl rfl) ?_
    (try refine vc_sound _ _ _ _ ?_)
    (repeat (first | refine Spl.t rfl ?_ | refine Spl.f rfl ?_))
    refine OpJ.callV hd (fun _ _ => rfl) rfl rfl rfl ?_
    (repeat (first | refine Spl.t rfl ?_ | refine Spl.f rfl ?_))
    refine FinP.open rfl ?_
    (rw [w1, w2]; first | done | rfl)
end Go.Proofs.E
end
section
namespace Go.Gv
open Go.RowKit
theorem listT2 (f : Nat → Option AV) : ∀ n, ∃ t : T, (∀ x, look x t = if x < n then f x else none) ∧ ∀ q, q ∈ t → f q.1 = some q.2
  | 0 => ⟨[], fun x => by rw [if_neg (Nat.not_lt_zero x)]; rfl, fun q h => by simp at h⟩
  | n + 1 => by
    obtain ⟨t, ht, hq⟩ := listT2 f n
    cases hf : f n with
    | none =>
      refine ⟨t, fun x => ?_, hq⟩
      rw [ht]
      by_cases e : x = n
      · subst e; rw [if_neg (Nat.lt_irrefl x), if_pos (by omega), hf]
      · by_cases h : x < n
        · rw [if_pos h, if_pos (by omega)]
        · rw [if_neg h, if_neg (by omega)]
    | some v =>
      refine ⟨(n, v) :: t, fun x => ?_, fun q h => ?_⟩
      · rw [look_cons]
        by_cases e : x = n
        · subst e; rw [if_pos rfl, if_pos (by omega), hf]
        · rw [if_neg e, ht]
          by_cases h : x < n
          · rw [if_pos h, if_pos (by omega)]
          · rw [if_neg h, if_neg (by omega)]
      · rcases List.mem_cons.1 h with rfl | h
        · exact hf
        · exact hq q h
/-- What the one operation does, whenever it is done. -/
def EffJ (X : Cx) (o : Oper) (t : T) (σ : Sg) (d lost : Nat) (fr : AV → Bool) {P : Type} (ve : P → AV) (σ' : P → Sg) : Prop :=
  o.guard = none ∧ o.dst = some d ∧ ∀ t' : T, (∀ x, x ∈ o.op.operands → ∀ v, ge t x = some v → ge t' x = some v) → (∀ q, q ∈ t' → fr q.2 = true) →
    OpJ X o t' σ (fun t2 σ2 => ∃ p, Wk (σ' p) σ2 ∧ look d t2 = some (ve p) ∧ ∀ x b, x ≠ d → x ≠ lost → look x t' = some b → look x t2 = some b)
def tabG {P : Type} (all : Array Oper) (V : Nat → AV) (t0 : T) (m1 d lost : Nat) (ve : P → AV) (g : Option P) (S : Nat → Bool) (x : Nat) : Option AV :=
  match g with
  | none => tabAt all V t0 S m1 x
  | some p => if x = d then some (ve p) else if x = lost then none else tabAt all V t0 S m1 x
def sgG {P : Type} (σ : Sg) (σ' : P → Sg) (g : Option P) : Sg := match g with
  | none => σ
  | some p => σ' p
theorem calm_anyX {X : Cx} {all : Array Oper} {m1 : Nat} {t0 : T} {σ σq : Sg} {V : Nat → AV} {P : Type} {ve : P → AV} {σ' : P → Sg} {oe : Oper} {d lost : Nat} {fr : AV → Bool} {Q' : Exit → Act → World → Prop}
    (hlN : lost < X.N) (hc : CalmR all (m1 + 1)) (hm : m1 + 1 ≤ all.size) (hoe : all[m1]? = some oe)
    (hstep : ∀ i o, i < m1 → all[i]? = some o → OStep X all o (states all V t0 i) σq (V i) ∧ dOk o.dst X.N = true)
    (hfar : ∀ i o, i < m1 → all[i]? = some o → edge oe i = true ∨ (namesT all o d = false ∧ namesT all o lost = false))
    (hq : Wk σq σ) (hq' : ∀ p, Wk σq (σ' p)) (hfr : ∀ i, i < m1 → fr (V i) = true) (hft : ∀ x b, look x t0 = some b → fr b = true) (heff : EffJ X oe (states all V t0 m1) σ d lost fr ve σ')
    (hend : ∀ p γ H a w listed, St X γ H ((d, ve p) :: (lost, .junk) :: states all V t0 m1) (σ' p) a w → listed.size = all.size → (∀ j, j < all.size → listed.getD j false = decide (j < m1 + 1)) → wpAnyIn (Fr X.ro) 0 X.P .any all Q' (all.size - (m1 + 1)) listed a w) :
    ∀ (fuel : Nat) (listed : Array Bool) (γ : Ids) (H : HF) (a : Act) (w : World), listed.size = all.size →
      (∀ j, m1 + 1 ≤ j → listed.getD j false = false) → (∀ i o, listed.getD i false = true → all[i]? = some o → ∀ e, e ∈ o.after → Region.binds .any e = true → listed.getD e.on false = true) →
      ((List.range (m1 + 1)).filter fun j => !listed.getD j false).length + (all.size - (m1 + 1)) = fuel →
      (∃ g : Option P, listed.getD m1 false = g.isSome ∧ TabOk γ H (tabG all V t0 m1 d lost ve g (fun j => listed.getD j false)) a.tmps ∧ St X γ H [] (sgG σ σ' g) a w) →
      wpAnyIn (Fr X.ro) 0 X.P .any all Q' fuel listed a w := by
  obtain ⟨hge, hde, heff⟩ := heff
  -- all is listed: the end
  have fin : ∀ (listed : Array Bool) (γ : Ids) (H : HF) (a : Act) (w : World), (∀ j, j < m1 + 1 → listed.getD j false = true) → listed.size = all.size → (∀ j, m1 + 1 ≤ j → listed.getD j false = false) →
      (∃ g : Option P, listed.getD m1 false = g.isSome ∧ TabOk γ H (tabG all V t0 m1 d lost ve g (fun j => listed.getD j false)) a.tmps ∧ St X γ H [] (sgG σ σ' g) a w) → wpAnyIn (Fr X.ro) 0 X.P .any all Q' (all.size - (m1 + 1)) listed a w := by
    rintro listed γ H a w hall hs htail ⟨g, hg, htab, sst⟩
    rw [hall m1 (by omega)] at hg
    cases g with
    | none => cases hg
    | some p =>
      refine hend p γ H a w listed (St.withT sst fun x b hx => ?_) hs (fun j hj => ?_)
      · by_cases hxd : x = d
        · subst hxd
          rw [look_cons, if_pos rfl] at hx
          exact htab x b (by simp only [tabG, if_true]; exact hx)
        · rw [look_cons, if_neg hxd, look_cons] at hx
          by_cases hxl : x = lost
          · subst hxl
            rw [if_pos rfl] at hx
            cases hx
            have hlt : x < a.tmps.size := by have := sst.size; omega
            exact ⟨a.tmps[x], by simp [hlt], .junk _⟩
          · rw [if_neg hxl, look_states] at hx
            refine htab x b ?_
            simp only [tabG, if_neg hxd, if_neg hxl]
            rw [← hx]
            simp only [tabAt]
            rw [lastW_congr m1 (fun j hj _ => hall j (by omega))]
      · by_cases hj' : j < m1 + 1
        · rw [hall j hj']; simp [hj']
        · rw [htail j (by omega)]; simp; omega
  intro fuel
  induction fuel with
  | zero =>
    intro listed γ H a w hs htail hclosed hcount hst
    have hall : ∀ j, j < m1 + 1 → listed.getD j false = true := fun j hj => by
      have h0 : ((List.range (m1 + 1)).filter fun j => !listed.getD j false) = [] := List.length_eq_zero_iff.1 (by omega)
      have := List.filter_eq_nil_iff.1 h0 j (List.mem_range.2 hj)
      simpa using this
    have := fin listed γ H a w hall hs htail hst
    rw [show all.size - (m1 + 1) = 0 from by omega] at this; exact this
  | succ fuel ih =>
    intro listed γ H a w hs htail hclosed hcount hst
    by_cases hall : ∀ j, j < m1 + 1 → listed.getD j false = true
    · have h0 : ((List.range (m1 + 1)).filter fun j => !listed.getD j false) = [] := List.filter_eq_nil_iff.2 fun j hj => by simp only [hall j (List.mem_range.1 hj)]; simp
      rw [h0] at hcount
      simp only [List.length_nil, Nat.zero_add] at hcount
      have := fin listed γ H a w hall hs htail hst
      rw [hcount] at this
      exact this
    · obtain ⟨g, hg, htab, sst⟩ := hst
      refine ⟨fun hn => ?_, fun i hi => ?_⟩
      · -- the least that is not listed is ready
        exfalso
        have hex : ∃ j, j < m1 + 1 ∧ listed.getD j false = false := by
          refine Classical.byContradiction fun hno => hall fun j hj => ?_
          cases hx : listed.getD j false with
          | true => rfl
          | false => exact absurd ⟨j, hj, hx⟩ hno
        have hmin : ∃ j, j < m1 + 1 ∧ listed.getD j false = false ∧ ∀ i, i < j → listed.getD i false = true := by
          obtain ⟨j, hj⟩ := hex
          induction j using Nat.strongRecOn with
          | _ j ihj =>
            by_cases hlow : ∀ i, i < j → listed.getD i false = true
            · exact ⟨j, hj.1, hj.2, hlow⟩
            · have : ∃ i, i < j ∧ listed.getD i false = false := by
                refine Classical.byContradiction fun hno => hlow fun i hi => ?_
                cases hx : listed.getD i false with
                | true => rfl
                | false => exact absurd ⟨i, hi, hx⟩ hno
              obtain ⟨i, hi, hx⟩ := this
              exact ihj i hi ⟨by omega, hx⟩
        obtain ⟨j, hj, hjl, hlow⟩ := hmin
        have hjn : j < all.size := by omega
        have hmem' : j ∈ Region.ready .any all listed := by
          rw [mem_ready]
          refine ⟨?_, all[j], by simp [hjn], fun e he hb => hlow _ (hc.back j all[j] (by simp [hjn]) e he hb)⟩
          rw [Array.getD_eq_getD_getElem?] at hjl ⊢
          rw [Array.getElem?_eq_getElem (by omega)] at hjl ⊢
          simpa using hjl
        rw [hn] at hmem'; cases hmem'
      · obtain ⟨h1, o, ho, h2⟩ := ready_sound hi
        obtain ⟨hil, hif⟩ := getD_of h1
        have hin : i < all.size := (Array.getElem?_eq_some_iff.1 ho).1
        have him : i < m1 + 1 := by
          refine Classical.byContradiction fun hge => hall fun j hj => ?_
          exact anc_listed hclosed (hc.tail i o ho (by omega) j hj) ho h2
        -- who writes what i names: listed just if it stands ahead
        have hwr : ∀ x, namesT all o x = true → ∀ j, j < m1 + 1 → dstAt all j = some x → listed.getD j false = decide (j < i) := by
          intro x hx j hj hd'
          cases hp : all[j]? with
          | none => simp [dstAt, hp] at hd'
          | some p =>
            simp only [dstAt, hp, Option.bind_some] at hd'
            by_cases hji : j < i
            · rcases hc.names i o (by omega) ho j p hji hp with h3 | ⟨h3, _⟩
              · rw [edge_listed h3 h2]; simp [hji]
              · rw [h3 x hd'] at hx; cases hx
            · by_cases e : j = i
              · subst e; rw [hif]; simp
              · rcases hc.names j p (by omega) hp i o (by omega) ho with h3 | ⟨_, h3⟩
                · cases hlj : listed.getD j false with
                  | false => simp; omega
                  | true =>
                    have := edge_listed h3 (hclosed j p hlj hp)
                    rw [hif] at this; cases this
                · rw [h3 x hd'] at hx; cases hx
        have htab_i : ∀ x, namesT all o x = true → tabAt all V t0 (fun j => listed.getD j false) m1 x = look x (states all V t0 i) := by
          intro x hx
          rw [look_states]
          simp only [tabAt]
          rw [lastW_congr m1 (fun j hj hd' => hwr x hx j (by omega) hd'), lastW_top m1 (by omega)]
        -- how many are left
        have hleft : ((List.range (m1 + 1)).filter fun j => !(listed.setIfInBounds i true).getD j false).length + (all.size - (m1 + 1)) = fuel := by
          have hf : ((List.range (m1 + 1)).filter fun j => !listed.getD j false).length = ((List.range (m1 + 1)).filter fun j => !(listed.setIfInBounds i true).getD j false).length + 1 := by
            have h5 : ∀ (l : List Nat), l.Nodup → i ∈ l → (l.filter fun j => !listed.getD j false).length = (l.filter fun j => !(listed.setIfInBounds i true).getD j false).length + 1 := by
              intro l
              induction l with
              | nil => intro _ h; cases h
              | cons b l ihl =>
                intro hnd hmem'
                rw [List.nodup_cons] at hnd
                by_cases e : i = b
                · subst e
                  have h6 : (listed.setIfInBounds i true).getD i false = true := by
                    rw [Array.getD_eq_getD_getElem?]; simp [hil]
                  have h7 : (l.filter fun j => !listed.getD j false) = (l.filter fun j => !(listed.setIfInBounds i true).getD j false) := by
                    refine List.filter_congr fun j hj => ?_
                    have hne : i ≠ j := fun e => hnd.1 (e ▸ hj)
                    rw [getD_set_ne false hne]
                  simp only [List.filter_cons, hif, h6, Bool.not_false, Bool.not_true, if_true, h7, List.length_cons, Bool.false_eq_true, if_false]
                · have h6 := getD_set_ne (listed := listed) false e
                  have h7 := ihl hnd.2 (by rcases List.mem_cons.1 hmem' with h | h; exact absurd h e; exact h)
                  simp only [List.filter_cons, h6]
                  split <;> simp only [List.length_cons, h7]
            exact h5 _ List.nodup_range (List.mem_range.2 him)
          omega
        have hclosed' : ∀ j p, (listed.setIfInBounds i true).getD j false = true → all[j]? = some p → ∀ e, e ∈ p.after → Region.binds .any e = true → (listed.setIfInBounds i true).getD e.on false = true := fun j p hj hp e he hb => by
          by_cases e' : i = j
          · subst e'
            rw [ho] at hp; simp only [Option.some.injEq] at hp; subst hp
            exact getD_set_true (h2 e he hb)
          · rw [getD_set_ne false e'] at hj
            exact getD_set_true (hclosed j p hj hp e he hb)
        have htail' : ∀ j, m1 + 1 ≤ j → (listed.setIfInBounds i true).getD j false = false := fun j hj => by
          rw [getD_set_ne false (by omega)]; exact htail j hj
        by_cases hie : i = m1
        · -- the one
          subst hie
          rw [hoe] at ho; simp only [Option.some.injEq] at ho; subst ho
          have hg0 : g = none := by
            rw [hif] at hg
            cases g with
            | none => rfl
            | some p => cases hg
          subst hg0
          have hw : Region.wanted oe (yielded all a.tmps) = true := by simp [Region.wanted, hge]
          unfold wpOpIn
          simp only [hoe]
          rw [if_pos hw]
          refine ⟨fun _ _ => trivial, ?_⟩
          obtain ⟨tc, htc0, htq⟩ := listT2 (fun x => tabAt all V t0 (fun j => listed.getD j false) i x) a.tmps.size
          have htc : ∀ x, look x tc = tabAt all V t0 (fun j => listed.getD j false) i x := fun x => by
            rw [htc0]
            split
            · rfl
            · next hx =>
              cases hv : tabAt all V t0 (fun j => listed.getD j false) i x with
              | none => rfl
              | some b =>
                obtain ⟨u, hu, _⟩ := htab x b hv
                exact absurd (Array.getElem?_eq_some_iff.1 hu).1 hx
          have hsc : St X γ H tc σ a w := St.withT sst (fun x b hx => htab x b (by show tabAt all V t0 _ i x = some b; rw [← htc]; exact hx))
          have key := heff tc (fun x hx v hv => by
            cases x with
            | tmp y =>
              have hy : namesT all oe y = true := by
                simp only [namesT, Bool.or_eq_true]
                exact .inl (.inr (List.any_eq_true.2 ⟨_, Array.mem_toList_iff.2 hx, by simp [hasT]⟩))
              show look y tc = some v
              rw [htc, htab_i y hy]; exact hv
            | const c => exact hv
            | func f => exact hv
            | global g => exact hv) (fun q hqm => by
            have h5 := htq q hqm
            simp only [tabAt] at h5
            split at h5
            · next j hj =>
              have := (lastW_spec _ _ hj).1
              rw [← Option.some.inj h5]
              exact hfr j this
            · exact hft _ _ h5)
          refine key γ H a w hsc _ _ ?_
          rintro γ' H' t' σ2 a' w' s' ⟨p, h4, h5, h6⟩
          refine ih _ γ' H' a' w' (by simpa using hs) htail' hclosed' hleft ⟨some p, ?_, fun x b hx => ?_, s'.wk (Wk.nil _) h4⟩
          · rw [Array.getD_eq_getD_getElem?]; simp [hil]
          · simp only [tabG] at hx
            by_cases hxd : x = d
            · rw [if_pos hxd] at hx
              subst hxd
              exact s'.tmp x b (by rw [← hx]; exact h5)
            · rw [if_neg hxd] at hx
              by_cases hxl : x = lost
              · rw [if_pos hxl] at hx; cases hx
              · rw [if_neg hxl] at hx
                refine s'.tmp x b (h6 x b hxd hxl ?_)
                rw [htc, ← hx]
                simp only [tabAt]
                rw [lastW_congr i fun j hj hd' => ?_]
                exact (getD_set_ne false (by omega : i ≠ j)).symm
        · -- a quiet one
          have him1 : i < m1 := by omega
          obtain ⟨hos, hdok⟩ := hstep i o him1 ho
          have hfar' : ∀ p, g = some p → namesT all o d = false ∧ namesT all o lost = false := fun p hp => by
            rcases hfar i o him1 ho with h3 | h3
            · rw [hp] at hg
              have := edge_listed h3 (hclosed m1 oe hg hoe)
              rw [hif] at this; cases this
            · exact h3
          have htabg : ∀ x, namesT all o x = true → ∀ S : Nat → Bool, tabG all V t0 m1 d lost ve g S x = tabAt all V t0 S m1 x := fun x hx S => by
            cases hgg : g with
            | none => rfl
            | some p =>
              obtain ⟨n1, n2⟩ := hfar' p hgg
              simp only [tabG]
              rw [if_neg (fun e => by subst e; rw [n1] at hx; cases hx), if_neg (fun e => by subst e; rw [n2] at hx; cases hx)]
          have hopnd : ∀ x, x ∈ o.op.operands → ∀ v, ge (states all V t0 i) x = some v → Rep γ H v (a.eval x) := by
            intro x hx v hv
            cases x with
            | tmp y =>
              have hy : namesT all o y = true := by
                simp only [namesT, Bool.or_eq_true]
                exact .inl (.inr (List.any_eq_true.2 ⟨_, Array.mem_toList_iff.2 hx, by simp [hasT]⟩))
              obtain ⟨u, hu, hr⟩ := htab y v (by rw [htabg y hy, htab_i y hy]; exact hv)
              simp only [Act.eval, Array.getD_eq_getD_getElem?, hu, Option.getD_some]
              exact hr
            | const c => simp only [ge, Option.some.injEq] at hv; subst hv; exact rep_const γ H c
            | func f => simp only [ge, Option.some.injEq] at hv; subst hv; exact .d _ _ (.fn f [] [] rfl (fun j a u h1 => by simp at h1))
            | global g => simp [ge] at hv
          have hnext : ∀ v γ' σ2 H' w', Mem w H (fun _ => False) γ' H' σ2 w' → Rep γ H' (V i) v → wpAnyIn (Fr X.ro) 0 X.P .any all Q' fuel (listed.setIfInBounds i true) (a.put o.dst v) w' := by
            intro v γ' σ2 H' w' hm' hr
            have sst' : St X γ H' [] (sgG σ σ' g) (a.put o.dst v) w' := (sst.calm (d := o.dst) hm' hdok hr).wk (Wk.nil _) (Wk.refl _)
            refine ih _ γ H' _ w' (by simpa using hs) htail' hclosed' hleft ⟨g, ?_, ?_, sst'⟩
            · rw [getD_set_ne false hie]; exact hg
            · -- the table
              intro x b hx
              by_cases hxd : o.dst = some x
              · have hnx : namesT all o x = true := by simp [namesT, hxd]
                have hlw : tabAt all V t0 (fun j => (listed.setIfInBounds i true).getD j false) m1 x = some (V i) := by
                  simp only [tabAt]
                  have : lastW all (fun j => (listed.setIfInBounds i true).getD j false) x m1 = lastW all (fun j => decide (j < i + 1)) x m1 := by
                    refine lastW_congr m1 fun j hj hd' => ?_
                    by_cases e : i = j
                    · subst e; rw [Array.getD_eq_getD_getElem?]; simp [hil]
                    · show (listed.setIfInBounds i true).getD j false = _
                      rw [getD_set_ne false e, hwr x hnx j (by omega) hd']
                      simp; omega
                  rw [this, lastW_top m1 (by omega)]
                  have hda : dstAt all i = some x := by simp [dstAt, ho, hxd]
                  simp [lastW, hda]
                rw [htabg x hnx, hlw] at hx
                simp only [Option.some.injEq] at hx
                subst hx
                have hlt : x < a.tmps.size := by have := sst.size; rw [hxd] at hdok; simp only [dOk, Nat.blt_eq] at hdok; omega
                exact ⟨v, by rw [hxd]; simp [Act.put, hlt], hr⟩
              · have hlw : tabG all V t0 m1 d lost ve g (fun j => (listed.setIfInBounds i true).getD j false) x = tabG all V t0 m1 d lost ve g (fun j => listed.getD j false) x := by
                  have h7 : tabAt all V t0 (fun j => (listed.setIfInBounds i true).getD j false) m1 x = tabAt all V t0 (fun j => listed.getD j false) m1 x := by
                    simp only [tabAt]
                    rw [lastW_congr m1 fun j hj hd' => ?_]
                    have e : i ≠ j := fun e => by subst e; simp [dstAt, ho] at hd'; exact hxd hd'
                    exact getD_set_ne false e
                  unfold tabG
                  rw [h7]
                rw [hlw] at hx
                obtain ⟨u, hu, hr'⟩ := htab x b hx
                refine ⟨u, ?_, hr'.mono hm'.hle⟩
                cases hod : o.dst with
                | none => simpa [Act.put, hod] using hu
                | some d =>
                  have hne : d ≠ x := fun e => hxd (by rw [hod, e])
                  simp only [Act.put]
                  rw [Array.getElem?_setIfInBounds, if_neg hne]; exact hu
          have hmemσ : Mem X.w0 X.H0 X.B γ H σq w := sst.mem.wk (by
            cases g with
            | none => exact hq
            | some p => exact hq' p)
          have hguard : ∀ j b' d b, o.guard = some (j, b') → ((all[j]?).bind (·.dst)) = some d → look d (states all V t0 i) = some (.d (.v (.bool b))) → yielded all a.tmps j = some b := by
            intro j b' d b hg hd' hl
            have hnd : namesT all o d = true := by simp [namesT, hg, hd']
            obtain ⟨u, hu, hr⟩ := htab d _ (by rw [htabg d hnd, htab_i d hnd]; exact hl)
            have := rep_v hr
            subst this
            simp [yielded, hd', hu]
          have hguardU : ∀ j b' d, o.guard = some (j, b') → ((all[j]?).bind (·.dst)) = some d → look d (states all V t0 i) = some (.tup []) → yielded all a.tmps j = none := by
            intro j b' d hg hd' hl
            have hnd : namesT all o d = true := by simp [namesT, hg, hd']
            obtain ⟨u, hu, hr⟩ := htab d _ (by rw [htabg d hnd, htab_i d hnd]; exact hl)
            have := rep_undef_eq hr
            subst this
            simp [yielded, hd', hu, undef]
          unfold wpOpIn
          simp only [ho]
          rcases hos with ⟨hg, hq⟩ | ⟨j, b, d, hg, hd', hl, hq⟩ | ⟨j, b, b', d, hg, hd', hl, hne, hV⟩ | ⟨j, b, d, hg, hd', hl, hV⟩
          · have hw : Region.wanted o (yielded all a.tmps) = true := by simp [Region.wanted, hg]
            rw [if_pos hw]
            exact ⟨fun _ _ => trivial, hq γ H a w sst.lam hopnd hmemσ _ _ hnext⟩
          · have hw : Region.wanted o (yielded all a.tmps) = true := by simp [Region.wanted, hg, hguard j b d b hg hd' hl]
            rw [if_pos hw]
            exact ⟨fun _ _ => trivial, hq γ H a w sst.lam hopnd hmemσ _ _ hnext⟩
          · have hw : Region.wanted o (yielded all a.tmps) = false := by simp [Region.wanted, hg, hguard j b d b' hg hd' hl, hne]
            simp only [hw, Bool.false_eq_true, if_false]
            exact ⟨fun _ _ => trivial, hnext undef γ [] H w (sst.mem.refl γ) (by rw [hV]; exact rep_undef)⟩
          · have hw : Region.wanted o (yielded all a.tmps) = false := by simp [Region.wanted, hg, hguardU j b d hg hd' hl]
            simp only [hw, Bool.false_eq_true, if_false]
            exact ⟨fun _ _ => trivial, hnext undef γ [] H w (sst.mem.refl γ) (by rw [hV]; exact rep_undef)⟩
/-! ### The reckoning -/
def CQ (X : Cx) (all : Array Oper) (σ : Sg) (Q : T → Prop) : List Oper → T → Prop
  | [], t => Q t
  | o :: rest, t => ∃ V, OStep X all o t σ V ∧ dOk o.dst X.N = true ∧ CQ X all σ Q rest (putT o.dst V t)
theorem CQ.table {X : Cx} {all : Array Oper} {σ : Sg} {Q : T → Prop} : ∀ (rest : List Oper) (k : Nat) (t : T), (∀ j, j < rest.length → all[k + j]? = rest[j]?) → CQ X all σ Q rest t →
    ∃ V : Nat → AV, (∀ j o, j < rest.length → all[k + j]? = some o → OStep X all o (statesFrom all V t k j) σ (V (k + j)) ∧ dOk o.dst X.N = true) ∧ Q (statesFrom all V t k rest.length)
  | [], k, t, _, h => ⟨fun _ => .junk, fun j o hj => by simp at hj, h⟩
  | p :: rest, k, t, ha, ⟨V0, h1, h2, h4⟩ => by
    have hk : all[k]? = some p := by simpa using ha 0 (by simp)
    have hdk : dstAt all k = p.dst := by simp [dstAt, hk]
    have ha' : ∀ j, j < rest.length → all[k + 1 + j]? = rest[j]? := fun j hj => by have := ha (j + 1) (by simp; omega); rw [show k + 1 + j = k + (j + 1) from by omega]; simpa using this
    have hne : ∀ j, k + (j + 1) ≠ k := fun j => by omega
    have hadd : ∀ j, k + (j + 1) = k + 1 + j := fun j => by omega
    obtain ⟨V', i1, i3⟩ := CQ.table rest (k + 1) _ ha' h4
    have hV : ∀ j, statesFrom all (fun i => if i = k then V0 else V' i) t k (j + 1) = statesFrom all V' (putT p.dst V0 t) (k + 1) j := fun j => by
      rw [statesFrom_succ, hdk]
      simp only [if_true]
      exact statesFrom_congr j fun i h7 h8 => if_neg (by omega)
    refine ⟨fun i => if i = k then V0 else V' i, ?_, by rw [List.length_cons, hV]; exact i3⟩
    intro j o hj ho
    cases j with
    | zero =>
      rw [Nat.add_zero, hk] at ho
      simp only [Option.some.injEq] at ho
      subst ho
      simp only [Nat.add_zero, if_true, statesFrom]
      exact ⟨h1, h2⟩
    | succ j =>
      rw [hV]
      simp only [if_neg (hne j)]
      have := i1 j o (by simpa using hj) (by rw [← hadd j]; exact ho)
      rw [hadd j]; exact this
def stepQ (X : Cx) (o : Oper) (t : T) (σ : Sg) (K : T → Prop) : Prop :=
  qw X o t σ (fun V => match dOk o.dst X.N with | true => K (putT o.dst V t) | false => False) (QuietP X o t σ (fun V => match dOk o.dst X.N with | true => K (putT o.dst V t) | false => False) fun _ _ _ => False)
/-- Quiet operations without guards. -/
def vQ (X : Cx) (σ : Sg) (Q : T → Prop) : List Oper → T → Prop
  | [], t => Q t
  | o :: rest, t => match o.guard with
    | none => stepQ X o t σ fun t => vQ X σ Q rest t
    | some _ => False
theorem vQ_sound {X : Cx} {all : Array Oper} {σ : Sg} {Q : T → Prop} : ∀ (rest : List Oper) (t : T), vQ X σ Q rest t → CQ X all σ Q rest t
  | [], _, h => h
  | o :: rest, t, h => by
    unfold vQ at h
    split at h
    · next hg =>
      have fin : ∀ V, QJ X o t σ V → (match dOk o.dst X.N with | true => vQ X σ Q rest (putT o.dst V t) | false => False) → CQ X all σ Q (o :: rest) t := fun V hq hk => by
        split at hk
        · next hb => exact ⟨V, .inl ⟨hg, hq⟩, hb, vQ_sound rest _ hk⟩
        · exact hk.elim
      unfold stepQ at h
      rcases qw_sound h with ⟨V, hq, hk⟩ | h
      · exact fin V hq hk
      · cases h with
        | of hq hk => exact fin _ hq hk
        | born hb hk => exact hk.elim
    · exact h.elim
/-- What the one operation d of the region does, from the state behind the quiet ones; then the rest. -/
def EffP (X : Cx) (o : Oper) (t : T) (σ : Sg) (d lost : Nat) (fr : AV → Bool) (σq : Sg) (K : T → Sg → Prop) : Prop :=
  t.all (fun q => fr q.2) = true ∧ ∃ (P : Type) (ve : P → AV) (σ' : P → Sg), EffJ X o t σ d lost fr ve σ' ∧ (∀ p, Wk σq (σ' p)) ∧ ∀ p, K ((d, ve p) :: (lost, .junk) :: t) (σ' p)
def farOk (all : Array Oper) (m1 d lost : Nat) : Bool := match all[m1]? with
  | some oe => (List.range m1).all fun i => edge oe i || (match all[i]? with
    | some o => !namesT all o d && !namesT all o lost
    | none => true)
  | none => false
theorem states_in (all : Array Oper) (V : Nat → AV) (t0 : T) : ∀ m i, i < m → (∃ d, dstAt all i = some d) → ∃ q, q ∈ states all V t0 m ∧ q.2 = V i
  | m + 1, i, hi, ⟨d, hd⟩ => by
    by_cases e : i = m
    · subst e
      exact ⟨(d, V i), by simp [states, hd, putT], rfl⟩
    · obtain ⟨q, h1, h2⟩ := states_in all V t0 m i (by omega) ⟨d, hd⟩
      refine ⟨q, ?_, h2⟩
      simp only [states]
      cases dstAt all m with
      | none => exact h1
      | some d => exact List.mem_cons_of_mem _ h1
theorem states_old (all : Array Oper) (V : Nat → AV) (t0 : T) : ∀ m q, q ∈ t0 → q ∈ states all V t0 m
  | 0, _, h => h
  | m + 1, q, h => by
    have := states_old all V t0 m q h
    simp only [states]
    cases dstAt all m with
    | none => exact this
    | some d => exact List.mem_cons_of_mem _ this
/-- **A region that draws its order: m1 quiet operations and then one that changes what is private (it may be done ahead of some of them), the rest by all orders.** -/
theorem RegP.mixX {X : Cx} {id : Nat} {ops : Array Oper} {t : T} {σ : Sg} {Q : T → Sg → Prop} (m1 d lost : Nat) (ks : List Nat) (fr : AV → Bool) {oe : Oper} (hm : X.P.follows .mixedOrders = true) (hoe : ops[m1]? = some oe)
    (hc : (calmB2 ops (m1 + 1) && Nat.ble (m1 + 1) ops.size && farOk ops m1 d lost && (ops.toList.take m1).all (fun o => o.dst.isSome)) = true) (hlN : Nat.blt lost X.N = true)
    (h : vQ X (hideS ks σ) (fun t => EffP X oe t σ d lost fr (hideS ks σ) fun t σ => vO X ops Q (ops.size - (m1 + 1)) (trues (m1 + 1) (falses (ops.size - (m1 + 1)))) t σ) (ops.toList.take m1) t) : RegP X id ops t σ Q := by
  intro Q' hQ
  simp only [Bool.and_eq_true, Nat.ble_eq] at hc
  simp only [Nat.blt_eq] at hlN
  obtain ⟨⟨⟨hc1, hle⟩, hfo⟩, hds⟩ := hc
  have hlen : (ops.toList.take m1).length = m1 := by simp; omega
  obtain ⟨V, g1, g2⟩ := CQ.table (all := ops) (ops.toList.take m1) 0 t (fun j hj => by rw [hlen] at hj; rw [Nat.zero_add, List.getElem?_take, if_pos hj]; simp) (vQ_sound _ _ h)
  simp only [hlen, Nat.zero_add] at g1 g2
  rw [statesFrom_zero] at g2
  obtain ⟨hfr, P, ve, σ', heff, hw', hk⟩ := g2
  rw [List.all_eq_true] at hfr hds
  intro γ H a w s
  refine wpIn_region_any hm ?_
  have s' : St X γ H t σ a { w with drawn := w.drawn + 1 } := ⟨s.lam, s.round, s.defers, s.size, s.pinned, s.tmp, s.mem.drew⟩
  have hall : ∀ j, (Array.replicate ops.size false).getD j false = false := fun j => by
    rw [Array.getD_eq_getD_getElem?, Array.getElem?_replicate]; split <;> rfl
  refine calm_anyX (P := P) hlN (calmB2_R hc1) hle hoe (V := V) (σ := σ) (σq := hideS ks σ) (ve := ve) (σ' := σ') (d := d) (lost := lost) (fr := fr) (t0 := t) (fun i o hi ho => by
    have := g1 i o hi ho
    rw [statesFrom_zero] at this
    exact this) (fun i o hi ho => ?_) (hideS_wk ks σ).1 hw' (fun i hi => ?_) (fun x b hx => ?_) heff (fun p γ H a w lst st hls hlst => ?_) ops.size _ γ H a _ (by simp) (fun j _ => hall j) (fun i o hi => by rw [hall i] at hi; cases hi) ?_ ⟨none, hall m1, fun x b hx => ?_, s'.wk (Wk.nil _) (Wk.refl _)⟩
  · unfold farOk at hfo
    rw [hoe] at hfo
    have := List.all_eq_true.1 hfo i (List.mem_range.2 hi)
    rw [ho] at this
    simp only [Bool.or_eq_true, Bool.and_eq_true, Bool.not_eq_true'] at this
    exact this
  · have hi' : i < ops.size := by omega
    have ho : (ops.toList.take m1)[i]? = some ops[i] := by rw [List.getElem?_take, if_pos hi]; simp [hi']
    have hd := hds _ (List.mem_of_getElem? ho)
    obtain ⟨x, hx⟩ := Option.isSome_iff_exists.1 hd
    obtain ⟨q, h5, h6⟩ := states_in ops V t m1 i hi ⟨x, by simp [dstAt, hi', hx]⟩
    rw [← h6]; exact hfr q h5
  · exact hfr _ (states_old ops V t m1 _ (look_mem hx))
  · have e : lst = (trues (m1 + 1) (falses (ops.size - (m1 + 1)))).toArray := by
      rw [trues_eq, falses_eq]
      apply Array.ext
      · simp [hls]; omega
      · intro j h1 h2
        have hj := hlst j (by omega)
        rw [Array.getD_eq_getD_getElem?, Array.getElem?_eq_getElem h1, Option.getD_some] at hj
        rw [hj, List.getElem_toArray, List.getElem_append]
        split
        · next h3 => simp at h3; simp [h3]
        · next h3 => simp at h3; simp; omega
    rw [e]
    exact vO_sound (Q := Q) (Q' := Post X Q') (fun γ H t σ a w s q => ⟨γ, H, t, σ, s, hQ t σ q⟩) (ops.size - (m1 + 1)) _ _ _ (hk p) γ H a w st
  · have : ((List.range (m1 + 1)).filter fun j => !(Array.replicate ops.size false).getD j false) = List.range (m1 + 1) := List.filter_eq_self.2 fun j _ => by rw [hall j]; rfl
    rw [this, List.length_range]; omega
  · have : lastW ops (fun j => (Array.replicate ops.size false).getD j false) x m1 = none := by
      have h0 : ∀ k, lastW ops (fun _ => false) x k = none := fun k => by
        induction k with
        | zero => rfl
        | succ k ih => simp [lastW, ih]
      rw [lastW_congr (S' := fun _ => false) m1 (fun j _ _ => hall j)]; exact h0 m1
    simp only [tabG, tabAt, this] at hx
    exact s.tmp x b hx
/-! ### append onto a row of a map, in such a region -/
theorem drop_id {i : Nat} {a : AV} (h : has2 i a = false) : drop i a = a := by unfold drop; rw [h]
theorem dropE_id {i : Nat} {e : Ent} (h : entHas i e = false) : dropE i e = e := by
  have hcs : ∀ cs : List AV, cs.any (has2 i) = false → cs.map (drop i) = cs := fun cs h => by
    have : ∀ a, a ∈ cs → drop i a = a := fun a ha => drop_id (by have := List.any_eq_false.1 h a ha; simpa using this)
    exact (List.map_congr_left this).trans (List.map_id _)
  cases e with
  | cells cs => exact congrArg Ent.cells (hcs cs h)
  | cellsT t cs => exact congrArg (Ent.cellsT t) (hcs cs h)
  | _ => rfl
theorem look_dropT {i x : Nat} {t : T} : look x (dropT i t) = (look x t).map (drop i) := look_map0
theorem all_dropT {i j : Nat} {t : T} (h : t.all (fun q => !has2 j q.2) = true) : (dropT i t).all (fun q => !has2 j q.2) = true := by
  rw [List.all_eq_true] at h ⊢
  intro q hq
  obtain ⟨z, hz, rfl⟩ := List.mem_map.1 hq
  simp only
  unfold drop
  split
  · rfl
  · exact h z hz
abbrev frI (id i : Nat) (a : AV) : Bool := !has2 id a && !has2 i a
section app
variable {X : Cx} {ty : TypeId} {pos : String} {aft : Array Edge} {t : T} {σ : Sg} {K : T → Sg → Prop}
theorem wk_hide {i : Nat} {e : Ent} : Wk (hideS [i] σ) ((i, e) :: rest [(i, .gone)] σ) := fun j f hj => by
  obtain ⟨h1, h2⟩ := hideS_wk [i] σ
  have hne : j ≠ i := fun e => by
    subst e
    rw [h2 j (by simp [inN])] at hj; cases hj
  rw [look_cons, if_neg hne, look_rest, look_cons, if_neg hne]
  exact h1 j f hj
theorem fresh_of {i : Nat} {t : T} {σ : Sg} {pin : List Nat} (h1 : t.all (fun q => !has2 i q.2) = true) (h2 : isFresh i [] σ pin = true) : isFresh i t σ pin = true := by
  unfold isFresh at h2 ⊢
  rw [h1]
  simpa using h2
theorem EffP.rowApp (i id : Nat) {p q d : Nat} {st xt : TypeId} {k : Nat} {r : RW} {l1 l2 : List RW} {av : AV} {ys : List (List D)} (hfr : t.all (fun z => frI id i z.2) = true) (hx : look p t = some (.d (.v r.sl))) (hi : look i σ = some (.res (rowsR X.P X.Λ k) (l1 ++ r :: l2)))
    (hy : look q t = some av) (hpq : Nat.beq q p = false) (hpd : Nat.beq p d = false) (hel : elems av = some (k, ys)) (hI : elInfo X.P st xt = some k) (hb : r.xs.length + ys.length ≤ 1000000000) (h0 : 0 < r.xs.length + ys.length)
    (hσ : isFresh id [] σ X.pin = true) (hσi : isFresh i [] (rest [(i, .gone)] σ) X.pin = true) (hN : dOk (some d) X.N = true)
    (h1 : isFresh id [] (rest [(id, .gone)] ((id, .arr k (r.xs ++ ys)) :: dropS id ((id, .arr k r.xs) :: (i, .res (rowsR X.P X.Λ k) (l1 ++ l2)) :: rest [(i, .gone)] σ))) X.pin = true)
    (h2 : isFresh i [] (rest [(i, .gone)] ((id, .arr k (r.xs ++ ys)) :: dropS id ((id, .arr k r.xs) :: (i, .res (rowsR X.P X.Λ k) (l1 ++ l2)) :: rest [(i, .gone)] σ))) X.pin = true)
    (kk : ∀ b c, K ((d, .d (.v (RW.sl ⟨b, c, r.xs ++ ys⟩))) :: (p, .junk) :: t) ((i, .res (rowsR X.P X.Λ k) (l1 ++ ⟨b, c, r.xs ++ ys⟩ :: l2)) :: rest [(i, .gone)] σ)) :
    EffP X ⟨some d, .call { callee := .builtin .append, args := #[.tmp p, .tmp q], argTypes := #[st, xt] }, ty, pos, aft, none⟩ t σ d p (frI id i) (hideS [i] σ) K := by
  have hne : i ≠ id := fun e => by
    subst e
    exact (fresh_s hσ hi).1 rfl
  have hnb : Nat.beq i id = false := by
    cases h : Nat.beq i id with
    | false => rfl
    | true => exact absurd (Nat.eq_of_beq_eq_true h) hne
  have hqp : q ≠ p := Nat.ne_of_beq_eq_false hpq
  have hpd' : p ≠ d := Nat.ne_of_beq_eq_false hpd
  refine ⟨hfr, Nat × Nat, fun bc => .d (.v (RW.sl ⟨bc.1, bc.2, r.xs ++ ys⟩)), fun bc => (i, .res (rowsR X.P X.Λ k) (l1 ++ ⟨bc.1, bc.2, r.xs ++ ys⟩ :: l2)) :: rest [(i, .gone)] σ, ⟨rfl, rfl, fun t' hop hq => ?_⟩, fun _ => wk_hide, fun bc => kk bc.1 bc.2⟩
  have hid : t'.all (fun z => !has2 id z.2) = true := List.all_eq_true.2 fun z hz => by have := hq z hz; simp only [frI, Bool.and_eq_true] at this; exact this.1
  have hii : t'.all (fun z => !has2 i z.2) = true := List.all_eq_true.2 fun z hz => by have := hq z hz; simp only [frI, Bool.and_eq_true] at this; exact this.2
  have hx' : look p t' = some (.d (.v r.sl)) := hop (.tmp p) (by simp [Op.operands, Call.operands]) _ hx
  have hy' : look q t' = some av := hop (.tmp q) (by simp [Op.operands, Call.operands]) _ hy
  refine OpJ.rowApp i id hx' hi (by show look q _ = some av; rw [look_cons, if_neg hqp]; exact hy') hel hI hb h0 (fresh_of hid hσ) (fresh_of hii hσi) hN h1 (fresh_of (all_dropT ?_) h2) fun b c => ⟨(b, c), fun j e hj => ?_, by rw [look_cons, if_pos rfl], fun x v hxd hxl hv => ?_⟩
  · show List.all (_ :: dropT id _) _ = true
    rw [List.all_cons, all_dropT (by rw [List.all_cons, hii]; simp [has2, has1, has0, hnb])]
    simp [has2, has1, has0, hnb]
  · simp only at hj
    rw [look_cons] at hj ⊢
    split at hj
    · next e1 => rw [if_pos e1]; exact hj
    · next e1 =>
      rw [if_neg e1]
      rw [look_rest] at hj
      split at hj
      · cases hj
      · have h3 := fresh_s hσ hj
        have l2r : ∀ τ : Sg, look j (rest [(i, .gone), (id, .gone)] τ) = look j τ := fun τ => by rw [look_rest, look_cons, if_neg e1, look_cons, if_neg h3.1]; rfl
        have l1r : ∀ τ : Sg, look j (rest [(i, .gone)] τ) = look j τ := fun τ => by rw [look_rest, look_cons, if_neg e1]; rfl
        rw [l2r, look_cons, if_neg h3.1, dropS, look_map, look_cons, if_neg h3.1, look_cons, if_neg e1, l1r, hj]
        exact congrArg some (dropE_id h3.2)
  · rw [look_cons, if_neg hxd, look_dropT]
    show (look x ((d, _) :: dropT id _)).map _ = _
    rw [look_cons, if_neg hxd, look_dropT, look_cons, if_neg hxl, hv]
    have h5 := List.all_eq_true.1 hid _ (look_mem hv)
    simp only [Bool.not_eq_true'] at h5
    simp [drop_id h5]
theorem EffP.rowNew (i id : Nat) {p q d : Nat} {st xt : TypeId} {k : Nat} {l1 : List RW} {av : AV} {ys : List (List D)} (hfr : t.all (fun z => frI id i z.2) = true) (hx : look p t = some (.d (.v (.slice none 0 0)))) (hi : look i σ = some (.res (rowsR X.P X.Λ k) l1))
    (hy : look q t = some av) (hpq : Nat.beq q p = false) (hpd : Nat.beq p d = false) (hel : elems av = some (k, ys)) (hI : elInfo X.P st xt = some k) (hb : 0 + ys.length ≤ 1000000000) (h0 : 0 < 0 + ys.length)
    (hσ : isFresh id [] σ X.pin = true) (hN : dOk (some d) X.N = true)
    (h1 : isFresh id [] (rest [(id, .gone)] ((id, .arr k ([] ++ ys)) :: dropS id ((id, .arr k []) :: σ))) X.pin = true)
    (h2 : isFresh i [] (rest [(i, .gone)] ((id, .arr k ([] ++ ys)) :: dropS id ((id, .arr k []) :: σ))) X.pin = true)
    (kk : ∀ b c, K ((d, .d (.v (RW.sl ⟨b, c, [] ++ ys⟩))) :: (p, .junk) :: t) ((i, .res (rowsR X.P X.Λ k) (l1 ++ [⟨b, c, [] ++ ys⟩])) :: rest [(i, .gone)] σ)) :
    EffP X ⟨some d, .call { callee := .builtin .append, args := #[.tmp p, .tmp q], argTypes := #[st, xt] }, ty, pos, aft, none⟩ t σ d p (frI id i) (hideS [i] σ) K := by
  have hne : i ≠ id := fun e => by
    subst e
    exact (fresh_s hσ hi).1 rfl
  have hnb : Nat.beq i id = false := by
    cases h : Nat.beq i id with
    | false => rfl
    | true => exact absurd (Nat.eq_of_beq_eq_true h) hne
  have hqp : q ≠ p := Nat.ne_of_beq_eq_false hpq
  have hpd' : p ≠ d := Nat.ne_of_beq_eq_false hpd
  refine ⟨hfr, Nat × Nat, fun bc => .d (.v (RW.sl ⟨bc.1, bc.2, [] ++ ys⟩)), fun bc => (i, .res (rowsR X.P X.Λ k) (l1 ++ [⟨bc.1, bc.2, [] ++ ys⟩])) :: rest [(i, .gone)] σ, ⟨rfl, rfl, fun t' hop hq => ?_⟩, fun _ => wk_hide, fun bc => kk bc.1 bc.2⟩
  have hid : t'.all (fun z => !has2 id z.2) = true := List.all_eq_true.2 fun z hz => by have := hq z hz; simp only [frI, Bool.and_eq_true] at this; exact this.1
  have hii : t'.all (fun z => !has2 i z.2) = true := List.all_eq_true.2 fun z hz => by have := hq z hz; simp only [frI, Bool.and_eq_true] at this; exact this.2
  have hx' : look p t' = some (.d (.v (.slice none 0 0))) := hop (.tmp p) (by simp [Op.operands, Call.operands]) _ hx
  have hy' : look q t' = some av := hop (.tmp q) (by simp [Op.operands, Call.operands]) _ hy
  refine OpJ.rowNew i id hx' hi (by show look q _ = some av; rw [look_cons, if_neg hqp]; exact hy') hel hI hb h0 (fresh_of hid hσ) hN h1 (fresh_of (all_dropT ?_) h2) fun b c => ⟨(b, c), fun j e hj => ?_, by rw [look_cons, if_pos rfl], fun x v hxd hxl hv => ?_⟩
  · show List.all (_ :: dropT id _) _ = true
    rw [List.all_cons, all_dropT (by rw [List.all_cons, hii]; simp [has2, has1, has0, hnb])]
    simp [has2, has1, has0, hnb]
  · simp only at hj
    rw [look_cons] at hj ⊢
    split at hj
    · next e1 => rw [if_pos e1]; exact hj
    · next e1 =>
      rw [if_neg e1]
      rw [look_rest] at hj
      split at hj
      · cases hj
      · have h3 := fresh_s hσ hj
        have l2r : ∀ τ : Sg, look j (rest [(i, .gone), (id, .gone)] τ) = look j τ := fun τ => by rw [look_rest, look_cons, if_neg e1, look_cons, if_neg h3.1]; rfl
        rw [l2r, look_cons, if_neg h3.1, dropS, look_map, look_cons, if_neg h3.1, hj]
        exact congrArg some (dropE_id h3.2)
  · rw [look_cons, if_neg hxd, look_dropT]
    show (look x ((d, _) :: dropT id _)).map _ = _
    rw [look_cons, if_neg hxd, look_dropT, look_cons, if_neg hxl, hv]
    have h5 := List.all_eq_true.1 hid _ (look_mem hv)
    simp only [Bool.not_eq_true'] at h5
    simp [drop_id h5]
end app
section
variable {X : Cx} {t : T} {σ : Sg} {K : T → Sg → Prop} {o : Oper}
theorem OpJ.rowIn (i id x : Nat) {k n : Nat} {xs : List (List D)} {l1 : List RW} (hi : look i σ = some (.res (rowsR X.P X.Λ k) l1)) (hid : look id σ = some (.arr k xs)) (hx : look x t = some (.arr id k n)) (hn : xs.length = n) (h0 : 0 < n)
    (hf : isFresh id [] (rest [(id, .gone)] σ) X.pin = true) (hfi : isFresh i (dropT id t) (rest [(i, .gone)] σ) X.pin = true)
    (kk : ∀ b c, OpJ X o ((x, .d (.v (RW.sl ⟨b, c, xs⟩))) :: dropT id t) ((i, .res (rowsR X.P X.Λ k) (l1 ++ [⟨b, c, xs⟩])) :: rest [(i, .gone), (id, .gone)] σ) K) : OpJ X o t σ K := fun γ H a w s => by
  obtain ⟨γ', b, c, s'⟩ := s.rowIn i id x (l1 := l1) (l2 := []) (by rw [List.append_nil]; exact hi) hid hx hn h0 hf hfi
  exact kk b c γ' H a w s'
end
end Go.Gv
end
section
open Go Go.Gv
attribute [local irreducible] Go.Gv.WJ Go.Gv.OpJ Go.Gv.QJ Go.Gv.Spl Go.Gv.Req Go.Gv.IdxP Go.Gv.RegP Go.Gv.FinP Go.Gv.CellP Go.Gv.CellsP Go.Gv.ArrP Go.Gv.ArrsP Go.Gv.DropP Go.Gv.ByteP Go.Gv.StoreP
set_option maxRecDepth 100000
namespace Go.Proofs.E
attribute [local irreducible] PutP LookP
noncomputable abbrev S9 (R : List (Int × RW)) : Sg := [(19, .mp false (R.map fun p => kInt.val p.1) (R.map fun p => [D.v p.2.sl])), (900, .res (rowsR Tryz.prog tab 1) (R.map (·.2)))]
theorem first_in {l : List TA} {k i : Nat} (hm : allMay l = true) (h : firstTo l k = none) (hi : firstJ l k k = some i) (hk : k < l.length) : firstV l = .tup [iv (i : Nat), iv (k : Nat), iv 13] := by
  unfold firstV
  rw [if_pos hm, firstTo_some h hi _ hk]
theorem split_at {α : Type} {l : List α} {j : Nat} {a : α} (h : l[j]? = some a) : l = l.take j ++ a :: l.drop (j + 1) := by
  obtain ⟨h1, h2⟩ := List.getElem?_eq_some_iff.1 h
  rw [← h2, ← List.drop_eq_getElem_cons h1, List.take_append_drop]
theorem map_at {R : List (Int × RW)} {j : Nat} {loc : Int} {r : RW} (h : R[j]? = some (loc, r)) : R.map (·.2) = (R.take j).map (·.2) ++ r :: (R.drop (j + 1)).map (·.2) := by
  have := congrArg (List.map (·.2)) (split_at h)
  rw [List.map_append, List.map_cons] at this
  exact this
theorem aset_at {R : List (Int × RW)} {j : Nat} {loc : Int} {r x : RW} (h : R[j]? = some (loc, r)) (hn : ∀ (i : Nat) (p : Int × RW), i < j → R[i]? = some p → loc ≠ p.1) : (aset loc x R).map (·.2) = (R.take j).map (·.2) ++ x :: (R.drop (j + 1)).map (·.2) := by
  have h1 := (List.getElem?_eq_some_iff.1 h).1
  rw [aset_is h hn, List.set_eq_take_append_cons_drop, if_pos h1, List.map_append, List.map_cons]
theorem aset_new {R : List (Int × RW)} {loc : Int} {x : RW} (h : alook loc R = none) : (aset loc x R).map (·.2) = R.map (·.2) ++ [x] := by
  rw [aset_no (alook_no h), List.map_append]; rfl
set_option maxHeartbeats 2000000 in
theorem First_c (l : List TA) (hl : l.length ≤ 1000) : Cv 22 [.d (.sl 3 (l.map taD))] (firstV l) := by
  have hc := clocks_c l hl
  unfold clksv at hc
  have hla := len_acD l
  cases hm : allMay l with
  | false =>
    rw [hm, if_neg (by simp)] at hc
    refine Ct.of_vc Tryz.f22 Tryz.func22 rfl rfl fun w H B g0 => ?_
    refine OpJ.callV hc (fun _ _ => rfl) rfl rfl rfl ?_
    (repeat (first | refine Spl.t rfl ?_ | refine Spl.f rfl ?_))
    refine FinP.open rfl ?_
    unfold firstV
    rw [hm, if_neg (by simp)]; rfl
  | true =>
    rw [hm, if_pos rfl] at hc
    have ha := fun i k h1 h2 => ahead14_c l (runC l).cs i k h1 (by omega) h2 (runC_len l)
    have hd : ∀ i k : Nat, (decide (i < k) && decide (clAt ((runC l).cs.getD i []) (l.getD i AC0).t ≤ clAt ((runC l).cs.getD k []) (l.getD i AC0).t)) = aheadB l i k := fun _ _ => rfl
    refine Ct.of_vc Tryz.f22 Tryz.func22 rfl rfl fun w H B g0 => ?_
    refine OpJ.callV hc (fun _ _ => rfl) rfl rfl rfl ?_
    (repeat (first | refine Spl.t rfl ?_ | refine Spl.f rfl ?_))
    generalize hcs : (runC l).cs = cs at ha hd ⊢
    refine WJ.shift (SJ.newRows 900 1 rfl) ?_
    refine WJ.loopK (V := Nat × List (Int × RW)) (fun v => [(22, iv v.1)]) (fun v => S9 v.2) [19, 900] (fun v => l.length - v.1) (fun v => v.1 ≤ l.length ∧ firstTo l v.1 = none ∧ MInv l v.1 v.2) (0, []) ⟨Nat.zero_le _, rfl, MInv.nil l⟩ (by repeat' (first | exact trivial | exact rfl | refine And.intro ?_ ?_)) (by repeat' (first | exact trivial | exact rfl | refine And.intro ?_ ?_)) ?_
    rintro ⟨k, R⟩ ⟨hk, hf, hR⟩
    simp only at hk hf hR
    refine Spl.of (fun h1 => ?_) (fun h1 => ?_)
    · have hlt : k < l.length := by have := of_decide_eq_true h1; simp at this; omega
      have hx := get_acD hlt
      have hfi := fun i (hi : firstJ l k k = some i) => first_in hm hf hi hlt
      have hfn : firstJ l k k = none → firstTo l (k + 1) = none := fun h => by
        unfold firstTo
        rw [hf]
        simp only
        rw [h]
      have hrn := fun h => first_none (l := l) (k := k) h
      have hrs := fun q i h1 h2 h3 => first_some (l := l) (k := k) (q := q) (i := i) h1 h2 h3
      have hno := race_no (l := l) (k := k)
      have his := fun i => race_is (l := l) (k := k) (i := i)
      have hput := fun r => MInv.put hR (a := l.getD k AC0) rfl (r := r)
      have hskip := hR.skip
      have happ := accs_put (l := l) (k := k) (a := l.getD k AC0) rfl
      generalize l.getD k AC0 = a at hx hrn hrs hno his hput hskip happ
      (repeat (first | refine Spl.t rfl ?_ | refine Spl.f rfl ?_))
      refine IdxP.of (taD a) (by omega) (by rw [Int.toNat_natCast]; exact hx) ?_
      refine OpJ.callV (access_c a) (fun _ _ => rfl) rfl rfl rfl ?_
      (repeat (first | refine Spl.t rfl ?_ | refine Spl.f rfl ?_))
      refine Spl.of (fun h2 => ?_) (fun h2 => ?_)
      · have h2 : accA a = false := by simpa using h2
        (repeat (first | refine Spl.t rfl ?_ | refine Spl.f rfl ?_))
        exact ⟨(k + 1, R), ⟨by simp only; omega, hfn ((firstI_none l k k).2 fun i _ => hno h2 i), hskip h2⟩, by simp only; omega, ⟨some_iv (wrap_id _ (by omega) (by omega)), trivial⟩, (by repeat' (first | exact trivial | exact rfl | refine And.intro ?_ ?_)), (by repeat' (first | exact trivial | exact rfl | refine And.intro ?_ ?_)), (by repeat' (first | exact trivial | exact rfl | refine And.intro ?_ ?_))⟩
      · have h2 : accA a = true := by simpa using h2
        (repeat (first | refine Spl.t rfl ?_ | refine Spl.f rfl ?_))
        have hloc := hR a.loc
        refine LookP.by kInt R (e := fun r => [D.v r.sl]) (fun r hr => ?_) (fun hr => ?_)
        · rw [hr] at hloc
          simp only at hloc
          obtain ⟨jr, hjr, hjn⟩ := alook_is hr
          have hmem : r ∈ R.map (·.2) := List.mem_map.2 ⟨_, List.mem_of_getElem? hjr, rfl⟩
          have hll : r.xs.length = (accs l k a.loc).length := by rw [hloc, List.length_map]
          have hal := accs_len l k a.loc
          (repeat (first | refine Spl.t rfl ?_ | refine Spl.f rfl ?_))
          refine WJ.loopK (V := Nat) (fun j => [(35, iv j)]) (fun _ => []) [] (fun j => r.xs.length - j) (fun j => j ≤ r.xs.length ∧ ∀ p i : Nat, p < j → (accs l k a.loc)[p]? = some i → raceB l i k = false) 0 ⟨Nat.zero_le _, fun _ _ h => by omega⟩ (by repeat' (first | exact trivial | exact rfl | refine And.intro ?_ ?_)) (by repeat' (first | exact trivial | exact rfl | refine And.intro ?_ ?_)) ?_
          rintro j ⟨hj, hall⟩
          refine Spl.of (fun h3 => ?_) (fun h3 => ?_)
          · have hjl : j < r.xs.length := by have := of_decide_eq_true h3; omega
            have hq : (accs l k a.loc)[j]? = some ((accs l k a.loc)[j]'(by omega)) := List.getElem?_eq_getElem _
            generalize (accs l k a.loc)[j]'(by omega) = i at hq
            have hxs : r.xs[j]? = some (dn i) := by rw [hloc, List.getElem?_map, hq]; rfl
            obtain ⟨hik, hin⟩ := mem_accs.1 (List.mem_of_getElem? hq)
            have hrace := his i hin h2
            have hai := ha i k (by omega) hlt
            rw [hd] at hai
            have hxi := get_acD (by omega : i < l.length)
            have hrs := fun h => hfi i (hrs j i hq h hall)
            have hall' : raceB l i k = false → ∀ p i : Nat, p < j + 1 → (accs l k a.loc)[p]? = some i → raceB l i k = false := fun h p i' hp hi' => by
              by_cases e : p = j
              · subst e; rw [hq] at hi'; cases hi'; exact h
              · exact hall p i' (by omega) hi'
            generalize l.getD i AC0 = c at hrace hxi
            (repeat (first | refine Spl.t rfl ?_ | refine Spl.f rfl ?_))
            refine OpJ.qu (O.idxV (b := r.b) (n := r.xs.length) (c := r.c) rfl rfl rfl rfl (by omega) (by omega)) rfl ?_
            refine OpJ.qu (O.loadV (i := 900) (r := r) (v := .v (.int .i64 (i : Nat))) rfl rfl hmem rfl (by show r.xs[(j : Int).toNat * 1]? = _; rw [Int.toNat_natCast, Nat.mul_one]; exact hxs) rfl) rfl ?_
            refine Spl.of (fun h4 => ?_) (fun h4 => ?_)
            · have h4 : wrA a = true := h4
              rw [h4, Bool.true_or, Bool.true_and] at hrace
              (repeat (first | refine Spl.t rfl ?_ | refine Spl.f rfl ?_))
              refine OpJ.callV hai (fun _ _ => rfl) rfl rfl rfl ?_
              (repeat (first | refine Spl.t rfl ?_ | refine Spl.f rfl ?_))
              refine Spl.of (fun h5 => ?_) (fun h5 => ?_)
              · (repeat (first | refine Spl.t rfl ?_ | refine Spl.f rfl ?_))
                exact FinP.open rfl (hrs (hrace.trans h5)).symm
              · (repeat (first | refine Spl.t rfl ?_ | refine Spl.f rfl ?_))
                exact ⟨j + 1, ⟨by omega, hall' (hrace.trans h5)⟩, by omega, ⟨some_iv (wrap_id _ (by omega) (by omega)), trivial⟩, (by repeat' (first | exact trivial | exact rfl | refine And.intro ?_ ?_)), (by repeat' (first | exact trivial | exact rfl | refine And.intro ?_ ?_)), (by repeat' (first | exact trivial | exact rfl | refine And.intro ?_ ?_))⟩
            · have h4 : wrA a = false := h4
              rw [h4, Bool.false_or] at hrace
              (repeat (first | refine Spl.t rfl ?_ | refine Spl.f rfl ?_))
              refine IdxP.of (taD c) (by omega) (by rw [Int.toNat_natCast]; exact hxi) ?_
              (repeat (first | refine Spl.t rfl ?_ | refine Spl.f rfl ?_))
              refine Spl.of (fun h5 => ?_) (fun h5 => ?_)
              · have h5 : wrA c = true := h5
                rw [h5, Bool.true_and] at hrace
                (repeat (first | refine Spl.t rfl ?_ | refine Spl.f rfl ?_))
                refine OpJ.callV hai (fun _ _ => rfl) rfl rfl rfl ?_
                (repeat (first | refine Spl.t rfl ?_ | refine Spl.f rfl ?_))
                refine Spl.of (fun h5 => ?_) (fun h5 => ?_)
                · (repeat (first | refine Spl.t rfl ?_ | refine Spl.f rfl ?_))
                  exact FinP.open rfl (hrs (hrace.trans h5)).symm
                · (repeat (first | refine Spl.t rfl ?_ | refine Spl.f rfl ?_))
                  exact ⟨j + 1, ⟨by omega, hall' (hrace.trans h5)⟩, by omega, ⟨some_iv (wrap_id _ (by omega) (by omega)), trivial⟩, (by repeat' (first | exact trivial | exact rfl | refine And.intro ?_ ?_)), (by repeat' (first | exact trivial | exact rfl | refine And.intro ?_ ?_)), (by repeat' (first | exact trivial | exact rfl | refine And.intro ?_ ?_))⟩
              · have h5 : wrA c = false := h5
                rw [h5, Bool.false_and] at hrace
                (repeat (first | refine Spl.t rfl ?_ | refine Spl.f rfl ?_))
                exact ⟨j + 1, ⟨by omega, hall' hrace⟩, by omega, ⟨some_iv (wrap_id _ (by omega) (by omega)), trivial⟩, (by repeat' (first | exact trivial | exact rfl | refine And.intro ?_ ?_)), (by repeat' (first | exact trivial | exact rfl | refine And.intro ?_ ?_)), (by repeat' (first | exact trivial | exact rfl | refine And.intro ?_ ?_))⟩
          · have h3 := of_decide_eq_false h3
            have hfn := hfn (hrn fun p i hp => hall p i (by have := (List.getElem?_eq_some_iff.1 hp).1; omega) hp)
            (repeat (first | refine Spl.t rfl ?_ | refine Spl.f rfl ?_))
            refine RegP.mixX 9 70 67 [900] (frI 901 900) rfl rfl (by decide +kernel) rfl ?_
            refine LookP.by kInt R (e := fun r => [D.v r.sl]) (fun r2 hr2 => ?_) (fun hr2 => ?_)
            · rw [hr] at hr2; cases hr2
              refine EffP.rowApp 900 901 (r := r) (l1 := (R.take jr).map (·.2)) (l2 := (R.drop (jr + 1)).map (·.2)) rfl rfl (congrArg (fun s => some (Ent.res (rowsR Tryz.prog tab 1) s)) (map_at hjr)) rfl rfl rfl rfl rfl (by show r.xs.length + 1 ≤ _; omega) (by show 0 < r.xs.length + 1; omega) rfl rfl rfl rfl rfl ?_
              intro b c
              (repeat (first | refine Spl.t rfl ?_ | refine Spl.f rfl ?_))
              refine PutP.by kInt R (⟨b, c, r.xs ++ [dn k]⟩ : RW) (e := fun r => [D.v r.sl]) ?_
              (repeat (first | refine Spl.t rfl ?_ | refine Spl.f rfl ?_))
              refine ⟨(k + 1, aset a.loc ⟨b, c, r.xs ++ [dn k]⟩ R), ⟨by simp only; omega, hfn, hput _ h2 ?_⟩, by simp only; omega, ⟨some_iv (wrap_id _ (by omega) (by omega)), trivial⟩, (by repeat' (first | exact trivial | exact rfl | refine And.intro ?_ ?_)), ⟨rfl, ?_, trivial⟩, (by repeat' (first | exact trivial | exact rfl | refine And.intro ?_ ?_))⟩
              · rw [happ h2, ← hloc]
              · exact congrArg (fun s => some (Ent.res (rowsR Tryz.prog tab 1) s)) (aset_at hjr hjn).symm
            · rw [hr] at hr2; cases hr2
        · rw [hr] at hloc
          simp only at hloc
          (repeat (first | refine Spl.t rfl ?_ | refine Spl.f rfl ?_))
          refine WJ.loopK (V := Nat) (fun j => [(35, iv j)]) (fun _ => []) [] (fun j => 0 - j) (fun j => j = 0) 0 rfl (by repeat' (first | exact trivial | exact rfl | refine And.intro ?_ ?_)) (by repeat' (first | exact trivial | exact rfl | refine And.intro ?_ ?_)) ?_
          rintro j rfl
          (repeat (first | refine Spl.t rfl ?_ | refine Spl.f rfl ?_))
          have hfn := hfn (hrn fun p i hp => by rw [hloc] at hp; simp at hp)
          (repeat (first | refine Spl.t rfl ?_ | refine Spl.f rfl ?_))
          refine RegP.mixX 9 70 67 [900] (frI 901 900) rfl rfl (by decide +kernel) rfl ?_
          refine LookP.by kInt R (e := fun r => [D.v r.sl]) (fun r2 hr2 => ?_) (fun hr2 => ?_)
          · rw [hr] at hr2; cases hr2
          · refine EffP.rowNew 900 901 (l1 := R.map (·.2)) rfl rfl rfl rfl rfl rfl rfl rfl (by show 0 + 1 ≤ 1000000000; omega) (by show 0 < 0 + 1; omega) rfl rfl rfl rfl ?_
            intro b c
            (repeat (first | refine Spl.t rfl ?_ | refine Spl.f rfl ?_))
            refine PutP.by kInt R (⟨b, c, [dn k]⟩ : RW) (e := fun r => [D.v r.sl]) ?_
            (repeat (first | refine Spl.t rfl ?_ | refine Spl.f rfl ?_))
            refine ⟨(k + 1, aset a.loc ⟨b, c, [dn k]⟩ R), ⟨by simp only; omega, hfn, hput _ h2 ?_⟩, by simp only; omega, ⟨some_iv (wrap_id _ (by omega) (by omega)), trivial⟩, (by repeat' (first | exact trivial | exact rfl | refine And.intro ?_ ?_)), ⟨rfl, ?_, trivial⟩, (by repeat' (first | exact trivial | exact rfl | refine And.intro ?_ ?_))⟩
            · rw [happ h2, hloc]; rfl
            · exact congrArg (fun s => some (Ent.res (rowsR Tryz.prog tab 1) s)) (aset_new hr).symm
    · have h1 := of_decide_eq_false h1
      simp at h1
      (repeat (first | refine Spl.t rfl ?_ | refine Spl.f rfl ?_))
      refine FinP.open rfl ?_
      obtain rfl : k = l.length := by omega
      unfold firstV
      rw [if_pos hm, hf]; rfl
end Go.Proofs.E
end
section
open Go Go.Gv
attribute [local irreducible] Go.Gv.WJ Go.Gv.OpJ Go.Gv.QJ Go.Gv.Spl Go.Gv.Req Go.Gv.IdxP Go.Gv.RegP Go.Gv.FinP Go.Gv.CellP Go.Gv.CellsP Go.Gv.ArrP Go.Gv.ArrsP Go.Gv.DropP Go.Gv.ByteP Go.Gv.StoreP
set_option maxRecDepth 100000
namespace Go.Proofs.E
open Classical in
noncomputable def hbB (l : List TA) (i k : Nat) : Bool := decide (HB l i k)
end Go.Proofs.E
end
section
open Go Go.Gv
attribute [local irreducible] Go.Gv.WJ Go.Gv.OpJ Go.Gv.QJ Go.Gv.Spl Go.Gv.Req Go.Gv.IdxP Go.Gv.RegP Go.Gv.FinP Go.Gv.CellP Go.Gv.CellsP Go.Gv.ArrP Go.Gv.ArrsP Go.Gv.DropP Go.Gv.ByteP Go.Gv.StoreP
set_option maxRecDepth 100000
namespace Go.Proofs.E
end Go.Proofs.E
end
section
open Go Go.Gv
attribute [local irreducible] Go.Gv.WJ Go.Gv.OpJ Go.Gv.QJ Go.Gv.Spl Go.Gv.Req Go.Gv.IdxP Go.Gv.RegP Go.Gv.FinP Go.Gv.CellP Go.Gv.CellsP Go.Gv.ArrP Go.Gv.ArrsP Go.Gv.DropP Go.Gv.ByteP Go.Gv.StoreP
set_option maxRecDepth 100000
namespace Go.Proofs.E
end Go.Proofs.E
end
section
open Go Go.Gv
attribute [local irreducible] Go.Gv.WJ Go.Gv.OpJ Go.Gv.QJ Go.Gv.Spl Go.Gv.Req Go.Gv.IdxP Go.Gv.RegP Go.Gv.FinP Go.Gv.CellP Go.Gv.CellsP Go.Gv.ArrP Go.Gv.ArrsP Go.Gv.DropP Go.Gv.ByteP Go.Gv.StoreP
set_option maxRecDepth 100000
namespace Go.Proofs.E
theorem firstV_is (l : List TA) : ∃ x y : Int, firstV l = .tup [iv x, iv y, iv (firstE l)] := by
  unfold firstV firstE
  split
  · cases firstTo l l.length with
    | none => exact ⟨_, _, rfl⟩
    | some p => exact ⟨_, _, rfl⟩
  · exact ⟨_, _, rfl⟩
def aw1 : List TA := [⟨0, 1, 0⟩, ⟨1, 0, 0⟩]
def aw2 : List TA := [⟨0, 1, 0⟩, ⟨0, 3, 5⟩, ⟨1, 2, 5⟩, ⟨1, 0, 0⟩]
theorem aw1_v : firstV aw1 = .tup [iv 0, iv 1, iv 13] := by
  unfold firstV
  rw [if_pos (by decide +kernel), show firstTo aw1 aw1.length = some (0, 1) from by decide +kernel]; rfl
theorem aw2_v : firstV aw2 = .tup [iv (-1), iv (-1), iv 0] := by
  unfold firstV
  rw [if_pos (by decide +kernel), show firstTo aw2 aw2.length = none from by decide +kernel]
theorem Awake14_c : Cv 57 [] (bv true) := by
  have h1 := First_c aw1 (by decide)
  have h2 := First_c aw2 (by decide)
  rw [aw1_v] at h1
  rw [aw2_v] at h2
  refine Ct.of_vc Tryz.f57 Tryz.func57 rfl rfl fun w H B g0 => ?_
  refine OpJ.shift (SJ.fullD 10 rfl) ?_
  refine OpJ.callV h1 (fun _ _ => rfl) rfl rfl rfl ?_
  (repeat (first | refine Spl.t rfl ?_ | refine Spl.f rfl ?_))
  refine OpJ.shift (SJ.fullD 20 rfl) ?_
  refine OpJ.callV h2 (fun _ _ => rfl) rfl rfl rfl ?_
  (repeat (first | refine Spl.t rfl ?_ | refine Spl.f rfl ?_))
  refine OpJ.callV Awake13_c (fun _ _ => rfl) rfl rfl rfl ?_
  (repeat (first | refine Spl.t rfl ?_ | refine Spl.f rfl ?_))
  exact FinP.open rfl rfl
end Go.Proofs.E
end
section
open Go Go.Gv
attribute [local irreducible] Go.Gv.WJ Go.Gv.OpJ Go.Gv.QJ Go.Gv.Spl Go.Gv.Req Go.Gv.IdxP Go.Gv.RegP Go.Gv.FinP Go.Gv.CellP Go.Gv.CellsP Go.Gv.ArrP Go.Gv.ArrsP Go.Gv.DropP Go.Gv.ByteP Go.Gv.StoreP
set_option maxRecDepth 100000
namespace Go.Proofs.E
attribute [local irreducible] elems LookP PutP
def RS0 : RS := ⟨0, 0, []⟩
set_option maxHeartbeats 4000000 in
theorem Filled_c (b : BD) (t k : Int) (ht : b.tr.length ≤ 900000) (hk0 : 0 ≤ k) (hk1 : k ≤ 100000) : Cv 20 [bdv b, iv t, iv k] (.tup [bdv (b.did t [(2, 3000 + k)]), bv (b.slot k).isSome]) := by
  have w2 := wrapS 3000 k hk0 hk1 (by omega) (by omega)
  have hd := did_c b t [(2, IntKind.i64.wrap (3000 + k))] (Nat.le_of_ble_eq_true rfl) (Nat.succ_pos _) (by omega)
  obtain ⟨bst, broom, btk, bup, bsite, bv', bcl, bsl, bgone, btr⟩ := b
  cases bsl with
  | none =>
    refine Ct.of_vc Tryz.f20 Tryz.func20 rfl rfl fun w H B g0 => ?_
    refine LookP.by kInt ([] : List (Int × RS)) (e := rsD) (fun x hx => nomatch hx) (fun hx => ?_)
    (repeat (first | refine Spl.t rfl ?_ | refine Spl.f rfl ?_))
    refine OpJ.callV hd (fun _ _ => rfl) rfl rfl rfl ?_
    (repeat (first | refine Spl.t rfl ?_ | refine Spl.f rfl ?_))
    refine FinP.open rfl ?_
    (rw [w2]; first | done | rfl)
  | some m =>
    have hs : BD.slot ⟨bst, broom, btk, bup, bsite, bv', bcl, some m, bgone, btr⟩ k = alook k m := rfl
    rw [hs]
    refine Ct.of_vc Tryz.f20 Tryz.func20 rfl rfl fun w H B g0 => ?_
    refine LookP.by kInt m (e := rsD) (fun x hx => ?_) (fun hx => ?_)
    · rw [hx]
      (repeat (first | refine Spl.t rfl ?_ | refine Spl.f rfl ?_))
      refine OpJ.callV hd (fun _ _ => rfl) rfl rfl rfl ?_
      (repeat (first | refine Spl.t rfl ?_ | refine Spl.f rfl ?_))
      refine FinP.open rfl ?_
      (rw [w2]; first | done | rfl)
    · rw [hx]
      (repeat (first | refine Spl.t rfl ?_ | refine Spl.f rfl ?_))
      refine OpJ.callV hd (fun _ _ => rfl) rfl rfl rfl ?_
      (repeat (first | refine Spl.t rfl ?_ | refine Spl.f rfl ?_))
      refine FinP.open rfl ?_
      (rw [w2]; first | done | rfl)
set_option maxHeartbeats 4000000 in
theorem Fetch_c (b : BD) (t k : Int) (ht : b.tr.length ≤ 900000) (hk0 : 0 ≤ k) (hk1 : k ≤ 100000) : Cv 21 [bdv b, iv t, iv k] (.tup [bdv (b.did t [(0, 100 + k)]), rsv ((b.slot k).getD RS0)]) := by
  have w2 := wrapS 100 k hk0 hk1 (by omega) (by omega)
  have hd := did_c b t [(0, IntKind.i64.wrap (100 + k))] (Nat.le_of_ble_eq_true rfl) (Nat.succ_pos _) (by omega)
  obtain ⟨bst, broom, btk, bup, bsite, bv', bcl, bsl, bgone, btr⟩ := b
  cases bsl with
  | none =>
    refine Ct.of_vc Tryz.f21 Tryz.func21 rfl rfl fun w H B g0 => ?_
    refine RegP.mixS 13 [6, 7] rfl (by decide +kernel) ?_
    refine QuietP.of (QJ.call hd (fun _ _ => rfl) rfl rfl) ?_
    refine LookP.by kInt ([] : List (Int × RS)) (e := rsD) (fun x hx => nomatch hx) (fun hx => ?_)
    (repeat (first | refine Spl.t rfl ?_ | refine Spl.f rfl ?_))
    refine FinP.open rfl ?_
    (rw [w2]; first | done | rfl)
  | some m =>
    have hs : BD.slot ⟨bst, broom, btk, bup, bsite, bv', bcl, some m, bgone, btr⟩ k = alook k m := rfl
    rw [hs]
    refine Ct.of_vc Tryz.f21 Tryz.func21 rfl rfl fun w H B g0 => ?_
    refine RegP.mixS 13 [6, 7] rfl (by decide +kernel) ?_
    refine QuietP.of (QJ.call hd (fun _ _ => rfl) rfl rfl) ?_
    refine LookP.by kInt m (e := rsD) (fun x hx => ?_) (fun hx => ?_)
    · rw [hx]
      (repeat (first | refine Spl.t rfl ?_ | refine Spl.f rfl ?_))
      refine FinP.open rfl ?_
      (rw [w2]; first | done | rfl)
    · rw [hx]
      (repeat (first | refine Spl.t rfl ?_ | refine Spl.f rfl ?_))
      refine FinP.open rfl ?_
      (rw [w2]; first | done | rfl)
/-! ### A new board -/
def newB (site : Int) (n : Nat) (room : Int) : BD := ⟨List.replicate n ⟨-1, [], false⟩, room, 0, false, site, vA0, false, none, false, []⟩
end Go.Proofs.E
end
