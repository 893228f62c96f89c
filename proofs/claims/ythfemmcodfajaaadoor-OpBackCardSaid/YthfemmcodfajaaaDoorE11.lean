/- An operation's text, read again; the law OpBack. -/
import Derived.Test.YthfemmcodfajaaaDoorE10
import Derived.Test.YthfemmcodfajaaaDoorG20
set_option linter.unusedVariables false
set_option linter.unusedSimpArgs false
open Go Go.Gv
attribute [local irreducible] Go.Gv.WJ Go.Gv.OpJ Go.Gv.QJ Go.Gv.Spl Go.Gv.Req Go.Gv.IdxP Go.Gv.RegP Go.Gv.FinP Go.Gv.QuietP Go.Gv.CellP Go.Gv.CellsP Go.Gv.ArrP Go.Gv.ArrsP Go.Gv.DropP Go.Gv.ByteP Go.Gv.StoreP
set_option maxRecDepth 100000
namespace Go.Proofs.E
theorem checkO_0 {o : OP} (h : checkO o = 0) : mayI o.i = true ∧ ((o.k = 1 ∧ noneI o.a = true ∧ o.ch = 0) ∨ (o.k = 0 ∧ (noneI o.a = true ∨ mayI o.a = true) ∧ 32 ≤ o.ch ∧ o.ch ≤ 1114111)) := by
  unfold checkO at h
  split at h
  · cases h
  · next h1 =>
    split at h
    · cases h
    · next h2 =>
      split at h
      · cases h
      · next h3 =>
        split at h
        · cases h
        · next h4 =>
          split at h
          · cases h
          · next h5 =>
            have m1 : mayI o.i = true := by
              cases e : mayI o.i with
              | true => rfl
              | false => exact absurd (.inl e) h3
            have m2 : noneI o.a = true ∨ mayI o.a = true := by
              cases e : noneI o.a with
              | true => exact .inl rfl
              | false =>
                cases e' : mayI o.a with
                | true => exact .inr rfl
                | false => exact absurd (.inr ⟨e, e'⟩) h3
            refine ⟨m1, ?_⟩
            by_cases k1 : o.k = 1
            · left
              refine ⟨k1, ?_, ?_⟩
              · cases e : noneI o.a with
                | true => rfl
                | false => exact absurd ⟨k1, .inl e⟩ h2
              · by_cases e : o.ch = 0
                · exact e
                · exact absurd ⟨k1, .inr e⟩ h2
            · right
              have k0 : o.k = 0 := by omega
              exact ⟨k0, m2, by omega, by omega⟩
theorem none_eq {a : ID} (h : noneI a = true) : a = ⟨0, 0⟩ := by
  have := of_decide_eq_true h
  cases a; simp_all
theorem none_text {a : ID} (h : noneI a = true) : textI a = [45] := if_pos h
theorem text_form {a : ID} (h : mayI a = true) : textI a = Lib.itoa a.c ++ 46 :: Lib.itoa a.s ∧ (46 : UInt8) ∉ Lib.itoa a.c ∧ (32 : UInt8) ∉ textI a ∧ textI a ≠ [45] := by
  obtain ⟨a1, a2, a3, a4⟩ := mayI_iff h
  have hn : ¬ noneI a = true := by unfold noneI; simp; omega
  have ht : textI a = Lib.itoa a.c ++ 46 :: Lib.itoa a.s := by rw [textI, if_neg hn, if_pos h]; simp
  have hb1 : ∀ b, b ∈ Lib.itoa a.c → 48 ≤ b.toNat ∧ b.toNat ≤ 57 := by rw [itoa_dd _ (by omega)]; exact dd_byte _
  have hb2 : ∀ b, b ∈ Lib.itoa a.s → 48 ≤ b.toNat ∧ b.toNat ≤ 57 := by rw [itoa_dd _ (by omega)]; exact dd_byte _
  refine ⟨ht, fun hc => by have := hb1 46 hc; simp at this, fun hc => ?_, fun e => ?_⟩
  · rw [ht] at hc
    simp only [List.mem_append, List.mem_cons] at hc
    rcases hc with h | h | h
    · have := hb1 32 h; simp at this
    · revert h; decide
    · have := hb2 32 h; simp at this
  · rw [ht] at e
    have := congrArg List.length e
    simp at this
    rw [itoa_dd _ (by omega), itoa_dd _ (by omega)] at this
    have := List.length_pos_iff.2 (dd_ne a.c.toNat)
    have := List.length_pos_iff.2 (dd_ne a.s.toNat)
    omega
theorem text_32 {a : ID} (h : noneI a = true ∨ mayI a = true) : (32 : UInt8) ∉ textI a := by
  rcases h with h | h
  · rw [none_text h]; decide
  · exact (text_form h).2.2.1
theorem hexD_32 (n : Nat) : (32 : UInt8) ∉ hexD n := fun h => by
  obtain ⟨k, hk, e⟩ := hexD_mem n 32 h
  exact (hx_ne ⟨k, hk⟩).1 e.symm
/-- What a text tells of an id. -/
def decI (l : List UInt8) : ID := if l = [45] then ⟨0, 0⟩ else ⟨val (Lib.cut l [46]).1, val (Lib.cut l [46]).2.1⟩
theorem decI_text {a : ID} (h : noneI a = true ∨ mayI a = true) : decI (textI a) = a := by
  rcases h with h | h
  · rw [none_text h, none_eq h]; rfl
  · obtain ⟨t1, t2, _, t4⟩ := text_form h
    obtain ⟨a1, a2, a3, a4⟩ := mayI_iff h
    rw [decI, if_neg t4, t1, cut_at 46 _ _ t2]
    have e1 : (val (Lib.itoa a.c) : Int) = a.c := by rw [itoa_dd _ (by omega), dd_val]; omega
    have e2 : (val (Lib.itoa a.s) : Int) = a.s := by rw [itoa_dd _ (by omega), dd_val]; omega
    simp only [e1, e2]
def decO : List UInt8 → OP
  | [] => ⟨0, ⟨0, 0⟩, ⟨0, 0⟩, 0⟩
  | b :: r => if b = 45 then ⟨1, decI r, ⟨0, 0⟩, 0⟩ else ⟨0, decI (Lib.cut r [32]).1, decI (Lib.cut (Lib.cut r [32]).2.1 [32]).1, valH (Lib.cut (Lib.cut r [32]).2.1 [32]).2.1⟩
theorem decO_text {o : OP} (h : checkO o = 0) : decO (textO o) = o := by
  obtain ⟨m, h1⟩ := checkO_0 h
  have hk : ¬ checkO o ≠ 0 := fun e => e h
  rcases h1 with ⟨k1, n1, c1⟩ | ⟨k0, n0, c0, c1⟩
  · rw [textO, if_neg hk, if_pos k1]
    show (⟨1, decI (textI o.i), ⟨0, 0⟩, 0⟩ : OP) = o
    rw [decI_text (.inr m)]
    have := none_eq n1
    cases o; simp_all
  · rw [textO, if_neg hk, if_neg (by omega)]
    show (⟨0, decI (Lib.cut (textI o.i ++ 32 :: (textI o.a ++ 32 :: hexD o.ch.toNat)) [32]).1, decI (Lib.cut (Lib.cut (textI o.i ++ 32 :: (textI o.a ++ 32 :: hexD o.ch.toNat)) [32]).2.1 [32]).1, valH (Lib.cut (Lib.cut (textI o.i ++ 32 :: (textI o.a ++ 32 :: hexD o.ch.toNat)) [32]).2.1 [32]).2.1⟩ : OP) = o
    rw [cut_at 32 _ _ (text_32 (.inr m))]
    simp only
    rw [cut_at 32 _ _ (text_32 n0)]
    simp only
    rw [decI_text (.inr m), decI_text n0, hexD_val]
    have : ((o.ch.toNat : Nat) : Int) = o.ch := by omega
    cases o; simp_all
theorem textO_inj {o p : OP} (ho : checkO o = 0) (hp : checkO p = 0) : (decide (p = o) == decide (textO p = textO o)) = true := by
  have : p = o ↔ textO p = textO o := ⟨fun e => by rw [e], fun e => by rw [← decO_text hp, ← decO_text ho, e]⟩
  by_cases e : p = o
  · rw [decide_eq_true e, decide_eq_true (this.1 e)]; rfl
  · rw [decide_eq_false e, decide_eq_false fun x => e (this.2 x)]; rfl

theorem ParseAny_c (a : ID) (h : noneI a = true ∨ mayI a = true) : Cv 41 [sv (textI a)] (.tup [idv a, iv 0]) := by
  rcases h with h | h
  · rw [none_text h, none_eq h]
    refine Ct.of_vc Tryd.f41 Tryd.func41 rfl rfl fun w H B g0 => ?_
    (repeat (first | refine Spl.t rfl ?_ | refine Spl.f rfl ?_))
    exact FinP.open rfl rfl
  · exact Parse_c a h
set_option maxHeartbeats 4000000 in
theorem read_c (o : OP) (hc : checkO o = 0) : Cv 62 [.agg [iv o.k, iv 0, iv 0, iv 0, iv 0, cv o.ch], sv (textI o.i), sv (textI o.a)] (.tup [opv o, iv 0]) := by
  obtain ⟨m, h1⟩ := checkO_0 hc
  have ha : noneI o.a = true ∨ mayI o.a = true := by
    rcases h1 with ⟨_, n1, _⟩ | ⟨_, n0, _⟩
    · exact .inl n1
    · exact n0
  refine Ct.of_vc Tryd.f62 Tryd.func62 rfl rfl fun w H B g0 => ?_
  refine OpJ.callV (ParseAny_c o.i (.inr m)) (fun _ _ => rfl) rfl rfl rfl ?_
  (repeat (first | refine Spl.t rfl ?_ | refine Spl.f rfl ?_))
  refine OpJ.callV (ParseAny_c o.a ha) (fun _ _ => rfl) rfl rfl rfl ?_
  (repeat (first | refine Spl.t rfl ?_ | refine Spl.f rfl ?_))
  refine OpJ.callV (when_c _ 1) (fun _ _ => rfl) rfl rfl rfl ?_
  (repeat (first | refine Spl.t rfl ?_ | refine Spl.f rfl ?_))
  refine OpJ.callV (first_c [if decide ((0 : Int) = 1) = true then 1 else 0, 0, 0] (by simp)) (fun _ _ => rfl) rfl rfl rfl ?_
  (repeat (first | refine Spl.t rfl ?_ | refine Spl.f rfl ?_))
  refine RegP.orders rfl ?_; (repeat' (refine And.intro ?_ ?_))
  all_goals refine OpJ.callV (Check5_c o) (fun _ _ => rfl) rfl rfl rfl ?_
  all_goals (repeat (first | refine Spl.t rfl ?_ | refine Spl.f rfl ?_))
  all_goals refine Spl.f (by rw [hc]; rfl) ?_
  all_goals (repeat (first | refine Spl.t rfl ?_ | refine Spl.f rfl ?_))
  all_goals exact FinP.open rfl rfl
theorem eqO (o p : OP) : eqT Tryd.prog 4 39 [.int .i64 o.k, .int .i64 o.i.c, .int .i64 o.i.s, .int .i64 o.a.c, .int .i64 o.a.s, .int .i32 o.ch] [.int .i64 p.k, .int .i64 p.i.c, .int .i64 p.i.s, .int .i64 p.a.c, .int .i64 p.a.s, .int .i32 p.ch] = some (decide (o = p)) := by
  show some (decide (o.k = p.k) && ((decide (o.i.c = p.i.c) && (decide (o.i.s = p.i.s) && true)) && ((decide (o.a.c = p.a.c) && (decide (o.a.s = p.a.s) && true)) && (decide (o.ch = p.ch) && true)))) = _
  obtain ⟨a, ⟨b, c⟩, ⟨d, e⟩, f⟩ := o
  obtain ⟨a', ⟨b', c'⟩, ⟨d', e'⟩, f'⟩ := p
  simp [Bool.and_assoc, and_assoc]
theorem eqO_ok : eqOk Tryd.prog 4 39 = true := by kernel_rfl
theorem eqO_g : Tryd.prog.eqGuardType Tryd.prog.depth 39 = false := by kernel_rfl
theorem Parse5_c (o : OP) (hc : checkO o = 0) : Cv 42 [sv (textO o)] (.tup [opv o, iv 0]) := by
  obtain ⟨m, h1⟩ := checkO_0 hc
  have hk : ¬ checkO o ≠ 0 := fun e => e hc
  have hr := read_c o hc
  rcases h1 with ⟨k1, n1, c1⟩ | ⟨k0, n0, c0, c1⟩
  · have ht : textO o = 45 :: textI o.i := by rw [textO, if_neg hk, if_pos k1]
    have hp := CutPrefix_c (45 :: textI o.i) [45]
    rw [show Lib.trimPrefix (45 :: textI o.i) [45] = textI o.i from rfl, show Lib.hasPrefix (45 :: textI o.i) [45] = true from rfl] at hp
    rw [none_text n1, k1, c1] at hr
    rw [ht]
    refine Ct.of_vc Tryd.f42 Tryd.func42 rfl rfl fun w H B g0 => ?_
    refine OpJ.callV hp (fun _ _ => rfl) rfl rfl rfl ?_
    (repeat (first | refine Spl.t rfl ?_ | refine Spl.f rfl ?_))
    refine OpJ.callV hr (fun _ _ => rfl) rfl rfl rfl ?_
    (repeat (first | refine Spl.t rfl ?_ | refine Spl.f rfl ?_))
    exact FinP.open rfl rfl
  · have ht : textO o = 43 :: (textI o.i ++ 32 :: (textI o.a ++ 32 :: hexD o.ch.toNat)) := by rw [textO, if_neg hk, if_neg (by omega)]
    have hp := CutPrefix_c (43 :: (textI o.i ++ 32 :: (textI o.a ++ 32 :: hexD o.ch.toNat))) [45]
    have hq := CutPrefix_c (43 :: (textI o.i ++ 32 :: (textI o.a ++ 32 :: hexD o.ch.toNat))) [43]
    rw [show ∀ r, Lib.trimPrefix (43 :: r) [45] = 43 :: r from fun _ => rfl, show ∀ r, Lib.hasPrefix (43 :: r) [45] = false from fun _ => rfl] at hp
    rw [show ∀ r, Lib.trimPrefix (43 :: r) [43] = r from fun _ => rfl, show ∀ r, Lib.hasPrefix (43 :: r) [43] = true from fun _ => rfl] at hq
    have l1 := textI_len o.i
    have l2 := textI_len o.a
    have l3 := hexD_len o.ch.toNat 15 (by omega) (by omega)
    have hs := Split3_c (textI o.i) (textI o.a) (hexD o.ch.toNat) (text_32 (.inr m)) (text_32 n0) (hexD_32 _) (by omega)
    have hh := hex_c o.ch.toNat (by omega) (by omega)
    rw [show ((o.ch.toNat : Nat) : Int) = o.ch by omega] at hh
    rw [k0] at hr
    rw [ht]
    refine Ct.of_vc Tryd.f42 Tryd.func42 rfl rfl fun w H B g0 => ?_
    refine OpJ.callV hp (fun _ _ => rfl) rfl rfl rfl ?_
    (repeat (first | refine Spl.t rfl ?_ | refine Spl.f rfl ?_))
    refine OpJ.callV hq (fun _ _ => rfl) rfl rfl rfl ?_
    (repeat (first | refine Spl.t rfl ?_ | refine Spl.f rfl ?_))
    refine OpJ.callV hs (fun _ _ => rfl) rfl rfl rfl ?_
    (repeat (first | refine Spl.t rfl ?_ | refine Spl.f rfl ?_))
    refine IdxP.of [.v (.string ⟨⟨hexD o.ch.toNat⟩⟩)] (by decide) rfl ?_
    (repeat (first | refine Spl.t rfl ?_ | refine Spl.f rfl ?_))
    refine OpJ.callV hh (fun _ _ => rfl) rfl rfl rfl ?_
    (repeat (first | refine Spl.t rfl ?_ | refine Spl.f rfl ?_))
    refine RegP.of rfl (by decide +kernel) ?_
    refine IdxP.of [.v (.string ⟨⟨textI o.i⟩⟩)] (by decide) rfl ?_
    refine IdxP.of [.v (.string ⟨⟨textI o.a⟩⟩)] (by decide) rfl ?_
    refine QuietP.of (QJ.call hr (fun _ _ => rfl) rfl rfl) ?_
    exact FinP.open rfl rfl
theorem OpBack_c (o p : OP) : Cv 10 [opv o, opv p] (bv true) := by
  refine Ct.of_vc Tryd.f10 Tryd.func10 rfl rfl fun w H B g0 => ?_
  refine OpJ.callV (Check5_c o) (fun _ _ => rfl) rfl rfl rfl ?_
  refine Spl.of (fun h => ?_) (fun h => ?_)
  · have hk : checkO o ≠ 0 := by simpa using h
    (repeat (first | refine Spl.t rfl ?_ | refine Spl.f rfl ?_))
    refine OpJ.callV Awake5_c (fun _ _ => rfl) rfl rfl rfl ?_
    (repeat (first | refine Spl.t rfl ?_ | refine Spl.f rfl ?_))
    refine OpJ.callV (String5_c o) (fun _ _ => rfl) rfl rfl rfl ?_
    (repeat (first | refine Spl.t rfl ?_ | refine Spl.f rfl ?_))
    exact FinP.open rfl (congrArg bv (by rw [textO, if_pos hk]; rfl))
  · have ho : checkO o = 0 := by simpa using h
    (repeat (first | refine Spl.t rfl ?_ | refine Spl.f rfl ?_))
    refine OpJ.callV (String5_c o) (fun _ _ => rfl) rfl rfl rfl ?_
    (repeat (first | refine Spl.t rfl ?_ | refine Spl.f rfl ?_))
    refine OpJ.callV (Parse5_c o ho) (fun _ _ => rfl) rfl rfl rfl ?_
    (repeat (first | refine Spl.t rfl ?_ | refine Spl.f rfl ?_))
    refine RegP.of rfl (by decide +kernel) ?_
    refine QuietP.of (QJ.call Awake5_c (fun _ _ => rfl) rfl rfl) ?_
    (repeat (first | refine Spl.t rfl ?_ | refine Spl.f rfl ?_))
    refine QuietP.of (O.eqT 4 rfl rfl rfl rfl rfl eqO_ok eqO_g (eqO o o)) ?_
    (repeat (first | refine Spl.t rfl ?_ | refine Spl.f rfl ?_))
    refine Spl.t (by simp) ?_
    (repeat (first | refine Spl.t rfl ?_ | refine Spl.f rfl ?_))
    refine QuietP.of (QJ.call (Check5_c p) (fun _ _ => rfl) rfl rfl) ?_
    (repeat (first | refine Spl.t rfl ?_ | refine Spl.f rfl ?_))
    refine Spl.of (fun h2 => ?_) (fun h2 => ?_)
    · (repeat (first | refine Spl.t rfl ?_ | refine Spl.f rfl ?_))
      exact FinP.open rfl rfl
    · have hp : checkO p = 0 := by simpa using h2
      (repeat (first | refine Spl.t rfl ?_ | refine Spl.f rfl ?_))
      refine QuietP.of (O.eqT 4 rfl rfl rfl rfl rfl eqO_ok eqO_g (eqO p o)) ?_
      (repeat (first | refine Spl.t rfl ?_ | refine Spl.f rfl ?_))
      refine QuietP.of (QJ.call (String5_c p) (fun _ _ => rfl) rfl rfl) ?_
      (repeat (first | refine Spl.t rfl ?_ | refine Spl.f rfl ?_))
      refine QuietP.of (QJ.call (String5_c o) (fun _ _ => rfl) rfl rfl) ?_
      (repeat (first | refine Spl.t rfl ?_ | refine Spl.f rfl ?_))
      exact FinP.open rfl (congrArg bv (textO_inj ho hp))
end Go.Proofs.E
