/- Contracts of the functions on tallies: the text. -/
import Derived.Test.YthfemmcodfajaaaDoorE13
set_option linter.unusedVariables false
set_option linter.unusedSimpArgs false
open Go Go.Gv Go.Gv.Fl
attribute [local irreducible] Go.Gv.WJ Go.Gv.OpJ Go.Gv.QJ Go.Gv.Spl Go.Gv.Req Go.Gv.IdxP Go.Gv.RegP Go.Gv.FinP Go.Gv.QuietP Go.Gv.CellP Go.Gv.CellsP Go.Gv.ArrP Go.Gv.ArrsP Go.Gv.DropP Go.Gv.ByteP Go.Gv.StoreP
set_option maxRecDepth 100000
namespace Go.Proofs.E
abbrev strD (x : List UInt8) : List D := [.v (.string ⟨⟨x⟩⟩)]
theorem repd_v {H : HF} {x u : Value} (r : RepD H (.v x) u) : u = x := by cases r; rfl
theorem Join_c (xs : List (List UInt8)) (sep : List UInt8) (h0 : xs ≠ []) (h1 : xs.length ≤ 1000000) (h2 : (Lib.join xs sep).length ≤ 100000000) :
    Cv 68 [.d (.sl 1 (xs.map strD)), sv sep] (sv (Lib.join xs sep)) :=
  Ct.of_calls fun γ H w vs hΛ hok hl hr => by
    obtain ⟨v0, v1, rfl⟩ : ∃ a b, vs = [a, b] := by
      match vs, hl with
      | [a, b], _ => exact ⟨a, b, rfl⟩
    have r0 := rep_d (hr 0 _ v0 rfl rfl)
    obtain rfl := rep_v (hr 1 _ v1 rfl rfl)
    have hm := Mem.start hok γ
    cases r0 with
    | sl _ _ A c b o us hk hn hc hA hH hrep =>
      have hlen : 0 < (xs.map strD).length := by simp; exact List.length_pos_iff.2 h0
      obtain rfl := hA hlen
      have hcell : ∀ (j : Nat) (x : ByteArray), (xs.map fun x => (⟨⟨x⟩⟩ : ByteArray))[j]? = some x → w.cell? ⟨b, o + j, none⟩ = some (.string x) := fun j x hx => by
        simp only [List.getElem?_map, Option.map_eq_some_iff] at hx
        obtain ⟨l, hl, rfl⟩ := hx
        have hj : j < (xs.map strD).length := by simp; exact (List.getElem?_eq_some_iff.1 hl).1
        have e1 := hok.c _ _ _ (hH j 0 hj (by decide))
        have e2 := repd_v (hrep j 0 (strD l) (.v (.string ⟨⟨l⟩⟩)) (by simp [hl]) rfl)
        rw [Nat.mul_one, Nat.add_zero, e2] at e1
        exact e1
      have hlt : b < w.heap.size := lt_of_cell (hok.c _ _ _ (hH 0 0 hlen (by decide)))
      have e0 : (xs.map fun x => (⟨⟨x⟩⟩ : ByteArray)).length = (xs.map strD).length := by simp
      have e3 : (xs.map fun x => (⟨⟨x⟩⟩ : ByteArray)).map (fun x => x.data.toList) = xs := by simp [List.map_map, Function.comp_def]
      have key := Tryd.strings_Join b o c (xs.map fun x => ⟨⟨x⟩⟩) ⟨⟨sep⟩⟩ w hcell hlt (by simp; omega) (by rw [e0]; exact hn) (by rw [e3]; exact Nat.le_trans h2 (by decide))
      rw [e3, e0] at key
      refine key.mono fun e w' ⟨he, hb⟩ => ⟨_, H, he, .d _ _ (.v _ rfl), hm.quiet (keeps_below hb)⟩
theorem itoa_le (n : Int) (h : n.natAbs < 10 ^ 18) : (Lib.itoa n).length ≤ 19 := by
  unfold Lib.itoa
  split
  · simp only [List.length_cons]
    have := decDigits_len n.natAbs 18 h (by decide)
    omega
  · have := decDigits_len n.toNat 18 (by omega) (by decide)
    omega
def textT (t : TL) : List UInt8 := Lib.join [Lib.itoa t.n, Lib.itoa t.a, Lib.itoa t.b, Lib.itoa t.c, Lib.itoa t.d] [32]
def strsT (t : TL) : List (List UInt8) := [Lib.itoa t.n, Lib.itoa t.a, Lib.itoa t.b, Lib.itoa t.c, Lib.itoa t.d]
def T0T (t : TL) (i : Nat) : T := [(24, iv i), (3, match i with | 0 => .full 1 [strD (Lib.itoa t.n)] | i + 1 => .arr 33 1 (i + 2))]
def S0T (t : TL) (i : Nat) : Sg := match i with | 0 => [] | i + 1 => [(33, .arr 1 (((strsT t).take (i + 2)).map strD))]
set_option profiler true in
set_option maxHeartbeats 2000000 in
theorem StringT_c (t : TL) (h : t.ok) : Cv 56 [tlv t] (sv (textT t)) := by
  obtain ⟨a1, a2, a3, a4⟩ := TL.ok_sm h
  have hn := h.1
  have hn' := h.2.1
  have itoa : ∀ z, sm z → Cv 43 [iv z, iv 10] (sv (Lib.itoa z)) := fun z hz => FormatInt_c z (by unfold sm at hz; omega) (by unfold sm at hz; omega)
  refine Ct.of_vc Tryd.f56 Tryd.func56 rfl rfl fun w H B g0 => ?_
  refine OpJ.callV (Itoa_c t.n (by omega) (by omega)) (fun _ _ => rfl) rfl rfl rfl ?_
  refine WJ.loopF (V := Nat) (T0T t) (S0T t) (fun i => 4 - i) (fun i => i ≤ 4) 0 (by omega) (by repeat' (first | exact trivial | exact rfl | refine And.intro ?_ ?_)) (by repeat' (first | exact trivial | exact rfl | refine And.intro ?_ ?_)) ?_
  intro i hi
  refine Spl.of (fun h => ?_) (fun h => ?_)
  · have hlt : i < 4 := by have := of_decide_eq_true h; change (i : Int) < 4 at this; omega
    match i, hlt with
    | 0, _ =>
      (repeat (first | refine Spl.t rfl ?_ | refine Spl.f rfl ?_))
      refine IdxP.of [.v (vf t.a)] (by decide) rfl ?_
      refine OpJ.qu (O.convFI rfl rfl rfl a1) rfl ?_
      refine OpJ.callV (itoa _ a1) (fun _ _ => rfl) rfl rfl rfl ?_
      refine O.appF (k := 1) rfl rfl (.full 1 _) rfl rfl rfl rfl (by show 1 + 1 ≤ 1000000000; decide) (.inl (List.cons_ne_nil _ _)) ?_
      exact ⟨1, by decide, by decide, (by repeat' (first | exact trivial | exact rfl | refine And.intro ?_ ?_)), (by repeat' (first | exact trivial | exact rfl | refine And.intro ?_ ?_))⟩
    | 1, _ =>
      (repeat (first | refine Spl.t rfl ?_ | refine Spl.f rfl ?_))
      refine IdxP.of [.v (vf t.b)] (by decide) rfl ?_
      refine OpJ.qu (O.convFI rfl rfl rfl a2) rfl ?_
      refine OpJ.callV (itoa _ a2) (fun _ _ => rfl) rfl rfl rfl ?_
      refine Req.of ⟨rfl, Nat.le_of_ble_eq_true rfl⟩ ?_
      exact ⟨2, by decide, by decide, (by repeat' (first | exact trivial | exact rfl | refine And.intro ?_ ?_)), (by repeat' (first | exact trivial | exact rfl | refine And.intro ?_ ?_))⟩
    | 2, _ =>
      (repeat (first | refine Spl.t rfl ?_ | refine Spl.f rfl ?_))
      refine IdxP.of [.v (vf t.c)] (by decide) rfl ?_
      refine OpJ.qu (O.convFI rfl rfl rfl a3) rfl ?_
      refine OpJ.callV (itoa _ a3) (fun _ _ => rfl) rfl rfl rfl ?_
      refine Req.of ⟨rfl, Nat.le_of_ble_eq_true rfl⟩ ?_
      exact ⟨3, by decide, by decide, (by repeat' (first | exact trivial | exact rfl | refine And.intro ?_ ?_)), (by repeat' (first | exact trivial | exact rfl | refine And.intro ?_ ?_))⟩
    | 3, _ =>
      (repeat (first | refine Spl.t rfl ?_ | refine Spl.f rfl ?_))
      refine IdxP.of [.v (vf t.d)] (by decide) rfl ?_
      refine OpJ.qu (O.convFI rfl rfl rfl a4) rfl ?_
      refine OpJ.callV (itoa _ a4) (fun _ _ => rfl) rfl rfl rfl ?_
      refine Req.of ⟨rfl, Nat.le_of_ble_eq_true rfl⟩ ?_
      exact ⟨4, by decide, by decide, (by repeat' (first | exact trivial | exact rfl | refine And.intro ?_ ?_)), (by repeat' (first | exact trivial | exact rfl | refine And.intro ?_ ?_))⟩
  · have he : i = 4 := by have := of_decide_eq_false h; change ¬ (i : Int) < 4 at this; omega
    subst he
    (repeat (first | refine Spl.t rfl ?_ | refine Spl.f rfl ?_))
    refine OpJ.shift (SJ.pubA 33 35 rfl rfl (Nat.le_of_ble_eq_true rfl) (by decide)) ?_
    refine OpJ.callV (Join_c (strsT t) [32] (by simp [strsT]) (by simp [strsT]) ?_) (fun _ _ => rfl) rfl rfl rfl ?_
    · have b1 := itoa_le t.n (by omega)
      have b2 := itoa_le t.a (by unfold sm at a1; omega)
      have b3 := itoa_le t.b (by unfold sm at a2; omega)
      have b4 := itoa_le t.c (by unfold sm at a3; omega)
      have b5 := itoa_le t.d (by unfold sm at a4; omega)
      simp [strsT, Lib.join, List.intercalate, List.intersperse]
      omega
    exact FinP.open rfl rfl
end Go.Proofs.E
